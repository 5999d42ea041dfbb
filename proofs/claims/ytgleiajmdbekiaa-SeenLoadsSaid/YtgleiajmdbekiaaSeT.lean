/- SeenTurns: few numbers make the same in any order (plain law); the calls, one after the other. -/
import Derived.Test.YtgleiajmdbekiaaProg
import Derived.Test.YtgleiajmdbekiaaBase
import Derived.Test.YtgleiajmdbekiaaSeO
import Derived.Test.YtgleiajmdbekiaaSeF
namespace Go.Proofs.Ytgleiajmdbekiaa
open Go.RowKit Go.Shelf
attribute [local go_sem] Oper.semAt_some

/-- The places gone through. -/
def idxT (n t i : Nat) : Nat := n - 1 - (i + t) % n
section vis
variable {α : Type}
def vis (l : List α) (t i : Nat) : List α := (List.range i).filterMap fun j => l[idxT l.length t j]?
theorem vis_succ {l : List α} {t i : Nat} {a : α} (h : l[idxT l.length t i]? = some a) : vis l t (i + 1) = vis l t i ++ [a] := by
  simp [vis, List.range_succ, List.filterMap_append, h]
theorem vis_sub {l : List α} {t i : Nat} {a : α} (h : a ∈ vis l t i) : a ∈ l := by
  simp only [vis, List.mem_filterMap] at h
  obtain ⟨j, _, h⟩ := h
  exact List.mem_of_getElem? h
theorem vis_all {l : List α} {t : Nat} {a : α} (h : a ∈ l) : a ∈ vis l t l.length := by
  obtain ⟨j, hj, rfl⟩ := List.getElem_of_mem h
  simp only [vis, List.mem_filterMap, List.mem_range]
  have hn : 0 < l.length := by omega
  have ht := Nat.mod_lt t hn
  refine ⟨((l.length - 1 - j) + (l.length - t % l.length)) % l.length, Nat.mod_lt _ hn, ?_⟩
  have e1 : (((l.length - 1 - j) + (l.length - t % l.length)) % l.length + t) % l.length = l.length - 1 - j := by
    rw [Nat.mod_add_mod]
    have e2 : (l.length - 1 - j) + (l.length - t % l.length) + t = (l.length - 1 - j) + l.length * (1 + t / l.length) := by
      have := Nat.div_add_mod t l.length
      rw [Nat.mul_add, Nat.mul_one]
      omega
    rw [e2, Nat.add_mul_mod_self_left, Nat.mod_eq_of_lt (by omega)]
  unfold idxT
  rw [e1, show l.length - 1 - (l.length - 1 - j) = j by omega, List.getElem?_eq_getElem hj]
theorem vis_new {l : List α} (hd : l.Nodup) {t i : Nat} (hi : i < l.length) {a : α} (h : l[idxT l.length t i]? = some a) : a ∉ vis l t i := by
  intro hm
  simp only [vis, List.mem_filterMap, List.mem_range] at hm
  obtain ⟨j, hj, h2⟩ := hm
  have hn : 0 < l.length := by omega
  have m1 := Nat.mod_lt (i + t) hn
  have m2 := Nat.mod_lt (j + t) hn
  have l1 : idxT l.length t i < l.length := by unfold idxT; omega
  have l2 : idxT l.length t j < l.length := by unfold idxT; omega
  rw [List.getElem?_eq_getElem l1] at h
  rw [List.getElem?_eq_getElem l2] at h2
  have he : l[idxT l.length t i] = l[idxT l.length t j] := by rw [Option.some.inj h, Option.some.inj h2]
  have hx := (List.getElem_inj hd).1 he
  unfold idxT at hx
  have hmod : (i + t) % l.length = (j + t) % l.length := by omega
  have hz := Nat.sub_mod_eq_zero_of_mod_eq hmod
  rw [show i + t - (j + t) = i - j by omega, Nat.mod_eq_of_lt (by omega)] at hz
  omega
theorem vis_len (l : List α) (t i : Nat) : (vis l t i).length ≤ i := by
  have := List.length_filterMap_le (fun j => l[idxT l.length t j]?) (List.range i)
  simpa [vis] using this
end vis
theorem nodup_len {α : Type} [DecidableEq α] : ∀ {l m : List α}, l.Nodup → (∀ x ∈ l, x ∈ m) → l.length ≤ m.length
  | [], _, _, _ => Nat.zero_le _
  | x :: l, m, h, hs => by
    obtain ⟨h1, h2⟩ := List.nodup_cons.1 h
    have hx := hs x (by simp)
    have := nodup_len (m := m.erase x) h2 fun y hy => (List.mem_erase_of_ne (fun (e : y = x) => h1 (e ▸ hy))).2 (hs y (by simp [hy]))
    rw [List.length_erase_of_mem hx] at this
    have := List.length_pos_of_mem hx
    simp only [List.length_cons]; omega
theorem rise_nodup {ls : Srcs} (h : Rise cmpS ls) : (ls.map (·.1)).Nodup := by
  unfold List.Nodup
  rw [List.pairwise_map]
  refine h.imp fun h e => ?_
  have := (ordrS.eq _ _).2 e
  omega
/-- What a few numbers make. -/
structure RepS (no : Noted) (ls : Srcs) : Prop where
  ok : OkS ls
  inv : OnceInv no ls
  has : ∀ k x, getL cmpS k ls = some x → 0 < manyK k no
  pos : ∀ a ∈ no, 1 ≤ a.2
  nodup : no.Nodup
  len : no.length ≤ 32
theorem RepS.nil : RepS [] [] := ⟨OkS.nil, OnceInv.nil, fun k x h => by simp [getL] at h, fun a h => by simp at h, List.Pairwise.nil, by simp⟩
theorem RepS.add {no : Noted} {ls : Srcs} (h : RepS no ls) {k : ByteArray} {q : Int} (hq : 1 ≤ q) (hc : canS k q ls = 0) (hl : no.length < 32) : RepS (no ++ [(k, q)]) (noteL k q ls) := by
  have hnot : (k, q) ∉ no := fun hm => by rw [h.inv.twice hm] at hc; cases hc
  refine ⟨h.ok.note hq hc, h.inv.note h.ok hq hc, fun k2 x hg => ?_, fun a ha => ?_, ?_, by simp; omega⟩
  · rw [manyK_snoc]
    by_cases hk : k2 = k
    · subst hk; simp
    · rw [noteL, getL_put_ne ordrS h.ok.rise hk] at hg
      have := h.has k2 x hg
      omega
  · rcases List.mem_append.1 ha with ha | ha
    · exact h.pos a ha
    · rw [List.mem_singleton.1 ha]; exact hq
  · refine List.nodup_append.2 ⟨h.nodup, by simp, fun a ha b hb e => ?_⟩
    rw [List.mem_singleton.1 hb] at e
    exact hnot (e ▸ ha)
theorem manyK_pos {k : ByteArray} {no : Noted} : 0 < manyK k no ↔ ∃ q, (k, q) ∈ no := by
  simp only [manyK, List.countP_pos_iff, decide_eq_true_eq]
  constructor
  · rintro ⟨⟨k', q⟩, hm, rfl⟩; exact ⟨q, hm⟩
  · rintro ⟨q, hm⟩; exact ⟨_, hm, rfl⟩
theorem RepS.get {no : Noted} {ls : Srcs} (h : RepS no ls) {k : ByteArray} {f : Int} {s : List Int} (hg : getL cmpS k ls = some (f, s)) : f = 0 ∧ ∀ q, q ∈ s ↔ (k, q) ∈ no := by
  have hm : manyK k no ≤ 32 := Nat.le_trans (manyK_le _ _) h.len
  obtain ⟨rfl, _, h3⟩ := h.inv.b k hm f s hg
  refine ⟨rfl, fun q => ⟨h3 q, fun hq => ?_⟩⟩
  obtain ⟨f2, s2, hg2, hh⟩ := h.inv.a _ hq
  rw [hg] at hg2
  cases hg2
  have := h.pos _ hq
  simp only at hh this
  exact hh.elim id fun h => by omega
theorem RepS.there {no : Noted} {ls : Srcs} (h : RepS no ls) {k : ByteArray} : (∃ x, getL cmpS k ls = some x) ↔ ∃ q, (k, q) ∈ no := by
  constructor
  · rintro ⟨x, hg⟩; exact manyK_pos.1 (h.has k x hg)
  · rintro ⟨q, hm⟩
    obtain ⟨f, s, hg, _⟩ := h.inv.a _ hm
    exact ⟨_, hg⟩
theorem sorted_ext {s s2 : List Int} (h : s.Pairwise (· < ·)) (h2 : s2.Pairwise (· < ·)) (he : ∀ q, q ∈ s ↔ q ∈ s2) : s = s2 := by
  have h3 : tru s = tru s2 := rise_ext ordrI (tru_rise.2 h) (tru_rise.2 h2) fun y => by
    obtain ⟨q, b⟩ := y
    simp only [tru, List.mem_map, Prod.mk.injEq]
    constructor <;> rintro ⟨a, ha, rfl, rfl⟩
    · exact ⟨a, (he a).1 ha, rfl, rfl⟩
    · exact ⟨a, (he a).2 ha, rfl, rfl⟩
  have := congrArg (List.map (·.1)) h3
  simpa [tru, Function.comp_def] using this
theorem RepS.sub {no no2 : Noted} {ls ls2 : Srcs} (h : RepS no ls) (h' : RepS no2 ls2) (hm : ∀ a, a ∈ no ↔ a ∈ no2) {y : ByteArray × Src} (hy : y ∈ ls) : y ∈ ls2 := by
  obtain ⟨k, f, s⟩ := y
  have hg := get_of_mem ordrS h.ok.rise hy
  obtain ⟨q, hq⟩ := h.there.1 ⟨_, hg⟩
  obtain ⟨⟨f2, s2⟩, hg2⟩ := h'.there.2 ⟨q, (hm _).1 hq⟩
  obtain ⟨rfl, e1⟩ := h.get hg
  obtain ⟨rfl, e2⟩ := h'.get hg2
  have hy2 := get_mem ordrS hg2
  have hs : s = s2 := sorted_ext (h.ok.each _ hy).1 (h'.ok.each _ hy2).1 fun q => by rw [e1, e2, hm]
  rw [hs]; exact hy2
theorem RepS.same {no no2 : Noted} {ls ls2 : Srcs} (h : RepS no ls) (h' : RepS no2 ls2) (hm : ∀ a, a ∈ no ↔ a ∈ no2) : ls = ls2 :=
  rise_ext ordrS h.ok.rise h'.ok.rise fun _ => ⟨h.sub h' hm, h'.sub h fun a => (hm a).symm⟩
/-- There is room. -/
theorem RepS.room {no no2 : Noted} {ls ls2 : Srcs} (h : RepS no ls) (h' : RepS no2 ls2) (hm : ∀ a, a ∈ no2 → a ∈ no) {k : ByteArray} {q : Int} (hx : (k, q) ∈ no) (hn : (k, q) ∉ no2) : canS k q ls2 = 0 := by
  unfold canS
  cases hg : getL cmpS k ls2 with
  | some x =>
    obtain ⟨f, s⟩ := x
    obtain ⟨rfl, e⟩ := h'.get hg
    have := h.pos _ hx
    simp only at this
    simp only
    rw [if_neg]
    rintro (h1 | h1)
    · exact hn ((e q).1 h1)
    · omega
  | none =>
    have hk : k ∉ ls2.map (·.1) := fun hm2 => by
      obtain ⟨y, hy, rfl⟩ := List.mem_map.1 hm2
      rw [get_of_mem ordrS h'.ok.rise hy] at hg
      cases hg
    have key : ∀ {no : Noted} {ls : Srcs}, RepS no ls → ∀ k q, (k, q) ∈ no → k ∈ ls.map (·.1) := fun hr k q hq => by
      obtain ⟨x, hg⟩ := hr.there.2 ⟨q, hq⟩
      exact List.mem_map.2 ⟨_, get_mem ordrS hg, rfl⟩
    have hl := nodup_len (l := k :: ls2.map (·.1)) (m := ls.map (·.1)) (List.nodup_cons.2 ⟨hk, rise_nodup h'.ok.rise⟩) fun k2 hk2 => by
      rcases List.mem_cons.1 hk2 with rfl | hk2
      · exact key h _ q hx
      · obtain ⟨y, hy, rfl⟩ := List.mem_map.1 hk2
        obtain ⟨q2, hq2⟩ := h'.there.1 ⟨_, get_of_mem ordrS h'.ok.rise hy⟩
        exact key h _ q2 (hm _ hq2)
    simp only [List.length_cons, List.length_map] at hl
    have := h.ok.len
    simp only
    rw [if_neg (by omega)]

/-- Two, the numbers so far, in a slice of the call's own; L: what the first one noted. -/
structure TurnI (ma mb : Nat) (own L : Noted) (v : Value) (ls : Srcs) (F G : Nat → Prop) (w W : World) : Prop where
  a : SeenA ma ls F W
  rep : RepS L ls
  b : SeenA mb [] G W
  row : W.ownsRow w.heap.size 27 2 v own.length (own.flatMap encQ)
  dis : ∀ j, F j → ¬ G j
  vd : ∀ j, v.ownBlock = some j → ¬ F j ∧ ¬ G j
  newF : ∀ j, F j → w.heap.size ≤ j
  newG : ∀ j, G j → w.heap.size ≤ j
  base : Upd (fun _ => False) w W
section
variable {ma mb : Nat} {own L : Noted} {v : Value} {ls : Srcs} {F G : Nat → Prop} {w W W2 : World} {q : Int} {src : ByteArray} {ab : Nat}
theorem TurnI.upd (h : TurnI ma mb own L v ls F G w W) (hu : Upd (fun _ => False) W W2) : TurnI ma mb own L v ls F G w W2 :=
  ⟨h.a.upd hu fun _ _ => id, h.rep, h.b.upd hu fun _ _ => id, own_agree h.row (hu.agree fun j hj => ⟨(h.row.lt j hj).2, id⟩), h.dis, h.vd, h.newF, h.newG, h.base.trans' hu⟩
/-- Word, Note of the first one. -/
theorem turn_note (h : TurnI ma mb own own v ls F G w W) (hA : Blk W ab #[.string src, .int .i64 q] 27) (hnA : ¬ F ab) (hs : src.size ≤ maxLen) (hl : own.length < 32) :
    CallsIn Fence.wide 0 Try.prog 9 #[.string src] W fun e W2 => (∃ b, e = .returned (.bool b)) ∧ (W2.cell? ⟨ab, 0, none⟩ = some (.string src) ∧ W2.cell? ⟨ab, 1, none⟩ = some (.int .i64 q)) ∧ TurnI ma mb own own v ls F G w W2 ∧
      (1 ≤ q → CallsIn Fence.wide 0 Try.prog 10 #[.pointer (some ⟨ma, 0, none⟩), .string src, .int .i64 q] W2 fun e W3 => e = .returned (.int .i64 (canS src q ls)) ∧ (W3.cell? ⟨ab, 0, none⟩ = some (.string src) ∧ W3.cell? ⟨ab, 1, none⟩ = some (.int .i64 q)) ∧
        (canS src q ls = 0 → ∃ ls' F', TurnI ma mb own (own ++ [(src, q)]) v ls' F' G w W3) ∧ (canS src q ls ≠ 0 → ∃ F', TurnI ma mb own own v ls F' G w W3)) := by
  refine (wordA_c hs).mono ?_
  rintro e W2 ⟨⟨b, rfl⟩, u⟩
  have h2 := h.upd u
  have A2 := hA.upd u id
  refine ⟨⟨b, rfl⟩, ⟨A2.cell 0, A2.cell 1⟩, h2, fun hn => (noteA_c h2.a h2.rep.ok src q).mono ?_⟩
  rintro e W3 ⟨rfl, F', g1, g3, g4⟩
  have A3 := A2.upd g4 hnA
  have z2 := h2.base.size
  have hb' := h2.b.upd g4 fun j hj hF => h2.dis j hF hj
  have hrow := own_agree h2.row (g4.agree fun j hj => ⟨(h2.row.lt j hj).2, (h2.vd j hj).1⟩)
  have hdis : ∀ j, F' j → ¬ G j := fun j hj hG => (g3 j hj).elim (fun h => h2.dis j h hG) fun h => by have := h2.b.lt j hG; omega
  have hvd : ∀ j, v.ownBlock = some j → ¬ F' j ∧ ¬ G j := fun j hj => ⟨fun hF => (g3 j hF).elim (h2.vd j hj).1 fun h => by have := (h2.row.lt j hj).2; omega, (h2.vd j hj).2⟩
  have hnF : ∀ j, F' j → w.heap.size ≤ j := fun j hj => (g3 j hj).elim (h2.newF j) fun h => by omega
  have hbase := h2.base.trans g4 fun j hj => .inr (h2.newF j hj)
  refine ⟨rfl, ⟨A3.cell 0, A3.cell 1⟩, fun hc => ?_, fun hc => ?_⟩
  · rw [noteR, if_pos hc] at g1
    exact ⟨_, F', g1, h2.rep.add hn hc hl, hb', hrow, hdis, hvd, hnF, h2.newG, hbase⟩
  · rw [noteR, if_neg hc] at g1
    exact ⟨F', g1, h2.rep, hb', hrow, hdis, hvd, hnF, h2.newG, hbase⟩
/-- One more is gathered. -/
theorem TurnI.push {g cap' : Nat} {x : ByteArray × Int} (h : TurnI ma mb own (own ++ [x]) v ls F G w W) (h1 : W2.ownsRow w.heap.size 27 2 (.slice (some ⟨g, 0, none⟩) (own.length + 1) cap') (own.length + 1) (own.flatMap encQ ++ encQ x)) (h2 : Upd (fun j => v.ownBlock = some j) W W2) (h3 : v.ownBlock = some g ∨ W.heap.size ≤ g) :
    TurnI ma mb (own ++ [x]) (own ++ [x]) (.slice (some ⟨g, 0, none⟩) (own.length + 1) cap') ls F G w W2 := by
  have hfl : (own ++ [x]).flatMap encQ = own.flatMap encQ ++ encQ x := by simp
  refine ⟨h.a.upd h2 fun j hj e => (h.vd j e).1 hj, h.rep, h.b.upd h2 fun j hj e => (h.vd j e).2 hj, by rw [hfl, List.length_append]; exact h1, h.dis, fun j hj => ?_, h.newF, h.newG, h.base.trans h2 fun j hj => .inr (h.row.lt j hj).1⟩
  obtain rfl : g = j := by simpa [Value.ownBlock] using hj
  rcases h3 with h3 | h3
  · exact h.vd g h3
  · exact ⟨fun hF => by have := h.a.lt g hF; omega, fun hG => by have := h.b.lt g hG; omega⟩
/-- The second one's turn. -/
structure TurnK (ma mb : Nat) (own : Noted) (t i : Nat) (A : Option Addr) (ls : Srcs) (w W : World) : Prop where
  rep : RepS own ls
  st : ∃ F G l2, SeenA ma ls F W ∧ SeenA mb l2 G W ∧ RepS (vis own t i) l2 ∧ (∀ j, F j → ¬ G j) ∧ (∀ j, F j → w.heap.size ≤ j) ∧ (∀ j, G j → w.heap.size ≤ j) ∧ (∀ j, blkOf' A (own.flatMap encQ).length j → ¬ G j)
  reads : Reads1 W A (own.flatMap encQ)
  base : Upd (fun _ => False) w W
theorem TurnI.toK {A : Option Addr} {cap t : Nat} (h : TurnI ma mb own own (.slice A own.length cap) ls F G w W) : TurnK ma mb own t 0 A ls w W := by
  obtain ⟨A', cap', e, hn, hr, _, hb⟩ := own_readsS h.row
  cases e
  exact ⟨h.rep, ⟨F, G, [], h.a, h.b, RepS.nil, h.dis, h.newF, h.newG, fun j hj => (h.vd j (hb j hj.2)).2⟩, hr, h.base⟩
/-- Note of the second one. -/
theorem turn_note2 {t i : Nat} {A : Option Addr} {x : ByteArray × Int} (h : TurnK ma mb own t i A ls w W) (hi : i < own.length) (hx : own[idxT own.length t i]? = some x) : CallsIn Fence.wide 0 Try.prog 10 #[.pointer (some ⟨mb, 0, none⟩), .string x.1, .int .i64 x.2] W fun e W2 => e = .returned (.int .i64 0) ∧ TurnK ma mb own t (i + 1) A ls w W2 := by
  obtain ⟨F, G, l2, h1, h2, h4, h5, h6, h7, h8⟩ := h.st
  have hxm := List.mem_of_getElem? hx
  have hc : canS x.1 x.2 l2 = 0 := h.rep.room h4 (fun a ha => vis_sub ha) hxm (vis_new h.rep.nodup hi hx)
  refine (noteA_c h2 h4.ok x.1 x.2).mono ?_
  rintro e W2 ⟨rfl, G', g1, g3, g4⟩
  rw [noteR, if_pos hc] at g1
  have hz := h.base.size
  have hvl := vis_len own t i
  have hol := h.rep.len
  refine ⟨by rw [hc], h.rep, ⟨F, G', _, h1.upd g4 fun j hj hG => h5 j hj hG, g1, by rw [vis_succ hx]; exact h4.add (h.rep.pos x hxm) hc (by omega), fun j hj hG => (g3 j hG).elim (h5 j hj) fun h => by have := h1.lt j hj; omega, h6, fun j hj => (g3 j hj).elim (h7 j) fun h => by omega, fun j hj hG => (g3 j hG).elim (h8 j hj) fun h' => by have := h.reads.lt' j hj; omega⟩,
    h.reads.agree' (g4.agree fun j hj => ⟨h.reads.lt' j hj, h8 j hj⟩), h.base.trans g4 fun j hj => .inr (h7 j hj)⟩
theorem TurnK.upd {t i : Nat} {A : Option Addr} (h : TurnK ma mb own t i A ls w W) (hu : Upd (fun _ => False) W W2) : TurnK ma mb own t i A ls w W2 := by
  obtain ⟨F, G, l2, h1, h2, h4, h5, h6, h7, h8⟩ := h.st
  exact ⟨h.rep, ⟨F, G, l2, h1.upd hu fun _ _ => id, h2.upd hu fun _ _ => id, h4, h5, h6, h7, h8⟩, h.reads.agree' (hu.agree fun j hj => ⟨h.reads.lt' j hj, id⟩), h.base.trans' hu⟩
theorem stateA_c {n sb : Nat} (h : SeenA sb ls F W) (ho : OkS ls) : CallsIn Fence.wide n Try.prog 14 #[.pointer (some ⟨sb, 0, none⟩)] W fun e W2 => ∃ A cap rs, e = .returned (.agg #[.slice A rs.length cap]) ∧
    rs.length ≤ cap ∧ ReadsT W2 A rs ∧ rs.map absT = ls ∧ (∀ j, blkT A rs j → W.heap.size ≤ j) ∧ Upd (fun _ => False) W W2 := by
  obtain ⟨es, h, rfl⟩ := h
  have hl := ho.len
  rw [mapV_len] at hl
  refine seenState_c h (by omega) fun y hy => ?_
  have := (ho.each (y.1, y.2.2) (List.mem_map.2 ⟨y, hy, rfl⟩)).2.1
  simp only at this
  omega
theorem rs_ok {rs : List SrcP} (ho : OkS ls) (he : rs.map absT = ls) : rs.length ≤ 8 ∧ ∀ r ∈ rs, r.2.2.1.length ≤ 32 := by
  have hl := ho.len
  rw [← he, List.length_map] at hl
  exact ⟨hl, fun r hr => (ho.each (absT r) (by rw [← he]; exact List.mem_map.2 ⟨r, hr, rfl⟩)).2.1⟩
/-- The end: both are asked for their states. -/
theorem turn_end {t : Nat} {A : Option Addr} (h : TurnK ma mb own t own.length A ls w W) :
    CallsIn Fence.wide 0 Try.prog 14 #[.pointer (some ⟨ma, 0, none⟩)] W fun e W4 => ∃ s, e = .returned s ∧
      CallsIn Fence.wide 0 Try.prog 13 #[s] W4 fun e W5 => ∃ r, e = .returned r ∧
        CallsIn Fence.wide 0 Try.prog 14 #[.pointer (some ⟨mb, 0, none⟩)] W5 fun e W6 => ∃ s2, e = .returned s2 ∧
          CallsIn Fence.wide 0 Try.prog 13 #[s2] W6 fun e W7 => ∃ r2, e = .returned r2 ∧
            CallsIn Fence.wide 0 Try.prog 12 #[r, r2] W7 fun e W8 => e = .returned (.bool true) ∧ Upd (fun _ => False) w W8 := by
  obtain ⟨F, G, l2, h1, h2, h4, h5, h6, h7, h8⟩ := h.st
  obtain rfl : ls = l2 := h.rep.same h4 fun a => ⟨fun ha => vis_all ha, fun ha => vis_sub ha⟩
  have ho := h.rep.ok
  refine (stateA_c h1 ho).mono ?_
  rintro e W4 ⟨A1, c1, rs, rfl, _, r1, e1, _, u4⟩
  have o1 := rs_ok ho e1
  refine ⟨_, rfl, (ref14_c r1 (by omega)).mono ?_⟩
  rintro e W5 ⟨A2, c2, rfl, _, r2, _, u5⟩
  have b5 := (h2.upd u4 fun _ _ => id).upd u5 fun _ _ => id
  refine ⟨_, rfl, (stateA_c b5 ho).mono ?_⟩
  rintro e W6 ⟨A3, c3, rs2, rfl, _, r3, e3, _, u6⟩
  have o3 := rs_ok ho e3
  refine ⟨_, rfl, (ref14_c r3 (by omega)).mono ?_⟩
  rintro e W7 ⟨A4, c4, rfl, _, r4, _, u7⟩
  have u67 := u6.trans' u7
  have r2' := r2.upd u67 fun _ _ => id
  refine ⟨_, rfl, (same14_c r2' r4 (by rw [e1, e3]) (by omega) (fun r hr => by have := o1.2 r hr; omega)).mono ?_⟩
  rintro e W8 ⟨rfl, u8⟩
  exact ⟨rfl, ((((h.base.trans' u4).trans' u5).trans' u67).trans' u8)⟩
end
end Go.Proofs.Ytgleiajmdbekiaa

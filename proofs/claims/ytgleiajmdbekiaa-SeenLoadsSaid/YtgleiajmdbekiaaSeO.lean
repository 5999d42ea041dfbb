/- SeenOnce: the walk. -/
import Derived.Test.YtgleiajmdbekiaaProg
import Derived.Test.YtgleiajmdbekiaaBase
import Derived.Test.YtgleiajmdbekiaaSeC
import Derived.Test.YtgleiajmdbekiaaAppS
import Derived.Test.YtgleiajmdbekiaaRowG
namespace Go.Proofs.Ytgleiajmdbekiaa
open Go.RowKit Go.Shelf
attribute [local go_sem] Oper.semAt_some

def encQ (a : ByteArray × Int) : List Value := [.string a.1, .int .i64 a.2]
theorem acts14_at {W : World} {A : Option Addr} {L : Noted} (hr : Reads1 W A (L.flatMap encQ)) {k : Nat} (hk : k < L.length) :
    ∃ g o, A = some ⟨g, o, none⟩ ∧ W.cell? ⟨g, o + k * 2, none⟩ = some (.string L[k].1) ∧ W.cell? ⟨g, o + k * 2 + 1, none⟩ = some (.int .i64 L[k].2) := by
  have hn : ∀ a, (encQ a).length = 2 := fun _ => rfl
  have hl : 0 < (L.flatMap encQ).length := by rw [flatMap_len hn]; omega
  obtain ⟨g, o, rfl, hc⟩ := reads_at hr hl
  refine ⟨g, o, rfl, hc _ _ (flatMap_at hn L k hk 0 (by omega)), ?_⟩
  have := hc _ _ (flatMap_at hn L k hk 1 (by omega)); rwa [← Nat.add_assoc] at this
theorem infoQ : (Try.prog.info? 27).map (fun i => (i.zero, i.size, i.bytes)) = some (some (.agg #[.string ⟨#[]⟩, .int .i64 0]), 2, 24) := by kernel_rfl
theorem zQ : (Value.agg #[.string ⟨#[]⟩, .int .i64 0]).cells.size = 2 := rfl
/-- 'l = append(l, x)', x of two cells, onto a slice of the call's own. -/
theorem app2 {F : Fence} {n : Nat} {P : Program} {T E : TypeId} {z : Value} {bytes : Nat} (hT : P.underlying T = some (.slice E)) (hI : (P.info? E).map (fun i => (i.zero, i.size, i.bytes)) = some (some z, 2, bytes)) (hz : z.cells.size = 2) (hby : bytes ≤ 1024)
    {ops : Array Oper} {rest : List Oper} {a : Act} {Q : Exit → Act → World → Prop} {s x : Operand} {dst : Option Tmp} {ty : TypeId} {pos : String} {aft : Array Edge} {wr : World} {base k : Nat} {v u1 u2 : Value} {xs : List Value}
    (hown : wr.ownsRow base E 2 v k xs) (hb : base ≤ wr.heap.size) (hk : k < 1073741824) (hu1 : u1.oneCell' = true) (hu2 : u2.oneCell' = true) (hs : a.eval s = v) (hx : a.eval x = .slice (some ⟨wr.heap.size, 0, none⟩) 1 1)
    (hK : ∀ g cap w', w'.ownsRow base E 2 (.slice (some ⟨g, 0, none⟩) (k + 1) cap) (k + 1) (xs ++ [u1, u2]) → Upd (fun j => v.ownBlock = some j) wr w' → (v.ownBlock = some g ∨ wr.heap.size ≤ g) → g < w'.heap.size →
      wpListIn F n P ops Q rest (a.put dst (.slice (some ⟨g, 0, none⟩) (k + 1) cap)) w') :
    wpListIn F n P ops Q (Oper.mk dst (.call (Call.mk (.builtin .append) #[s, x] #[T, T])) ty pos aft none :: rest) a (wr.alloc (.cells #[u1, u2] E)) :=
  appE (news := [u1, u2]) hT hI hz (by omega) hby hown hb hk rfl (by simp [hu1, hu2]) hs hx hK
/-- What is kept from act to act. -/
structure OnceR (sb : Nat) (no noI : Noted) (v : Value) (ls : Srcs) (F : Nat → Prop) (w W : World) : Prop where
  a : SeenA sb ls F W
  ok : OkS ls
  inv : OnceInv noI ls
  row : W.ownsRow w.heap.size 27 2 v no.length (no.flatMap encQ)
  own : ∀ j, v.ownBlock = some j → ¬ F j
  hF : ∀ j, F j → w.heap.size ≤ j
  base : Upd (fun _ => False) w W
section
variable {sb : Nat} {no : Noted} {v : Value} {ls : Srcs} {F : Nat → Prop} {w W W2 : World}
theorem OnceR.upd {noI : Noted} (h : OnceR sb no noI v ls F w W) (hu : Upd (fun _ => False) W W2) : OnceR sb no noI v ls F w W2 :=
  ⟨h.a.upd hu fun _ _ => id, h.ok, h.inv, own_agree h.row (hu.agree fun j hj => ⟨(h.row.lt j hj).2, id⟩), h.own, h.hF, h.base.trans' hu⟩
theorem OnceR.note (h : OnceR sb no no v ls F w W) {k : ByteArray} {q : Int} (hq : 1 ≤ q) : CallsIn Fence.wide 0 Try.prog 10 #[.pointer (some ⟨sb, 0, none⟩), .string k, .int .i64 q] W fun e W2 => e = .returned (.int .i64 (canS k q ls)) ∧ Upd F W W2 ∧
    (canS k q ls = 0 → ∃ ls' F', OnceR sb no (no ++ [(k, q)]) v ls' F' w W2) ∧ (canS k q ls ≠ 0 → ∃ F', OnceR sb no no v ls F' w W2) := by
  refine (noteA_c h.a h.ok k q).mono ?_
  rintro e W2 ⟨rfl, F', h1, h2, u2⟩
  have z := h.base.size
  have row2 := own_agree h.row (w' := W2) (u2.agree fun j hj => ⟨(h.row.lt j hj).2, fun hh => h.own j hj hh⟩)
  have own2 : ∀ j, v.ownBlock = some j → ¬ F' j := fun j hj hh => by
    rcases h2 j hh with hh | hh
    · exact h.own j hj hh
    · have := (h.row.lt j hj).2; omega
  have hF2 : ∀ j, F' j → w.heap.size ≤ j := fun j hj => (h2 j hj).elim (h.hF j) fun h => by omega
  have base2 : Upd (fun _ => False) w W2 := h.base.trans u2 fun j hj => .inr (h.hF j hj)
  refine ⟨rfl, u2, fun hc => ?_, fun hc => ?_⟩
  · rw [noteR, if_pos hc] at h1
    exact ⟨_, F', h1, h.ok.note hq hc, h.inv.note h.ok hq hc, row2, own2, hF2, base2⟩
  · rw [noteR, if_neg hc] at h1
    exact ⟨F', h1, h.ok, h.inv, row2, own2, hF2, base2⟩
theorem OnceR.push {x : ByteArray × Int} {g cap : Nat} {w' : World} (h : OnceR sb no (no ++ [x]) v ls F w W) (h1 : w'.ownsRow w.heap.size 27 2 (.slice (some ⟨g, 0, none⟩) (no.length + 1) cap) (no.length + 1) (no.flatMap encQ ++ encQ x))
    (h2 : Upd (fun j => v.ownBlock = some j) W w') (h3 : v.ownBlock = some g ∨ W.heap.size ≤ g) : OnceR sb (no ++ [x]) (no ++ [x]) (.slice (some ⟨g, 0, none⟩) (no.length + 1) cap) ls F w w' := by
  refine ⟨h.a.upd h2 fun j hj hh => h.own j hh hj, h.ok, h.inv, ?_, ?_, h.hF, h.base.trans h2 fun j hj => .inr (own_base h.row j hj)⟩
  · rw [List.length_append, List.flatMap_append]
    simpa using h1
  · intro j hj hF
    simp only [Value.ownBlock, Option.some.injEq] at hj
    subst hj
    rcases h3 with h3 | h3
    · exact h.own _ h3 hF
    · have := h.a.lt _ hF; omega
theorem OnceR.reads {noI : Noted} (h : OnceR sb no noI v ls F w W) : ∃ A cap, v = .slice A no.length cap ∧ ∀ W2, Upd (fun _ => False) W W2 → Reads1 W2 A (no.flatMap encQ) := by
  obtain ⟨A, cap, e, _, hr, _⟩ := own_readsS h.row
  exact ⟨A, cap, e, fun W2 hu => hr.agree' (hu.agree fun j hj => ⟨hr.lt' j hj, id⟩)⟩
end
theorem mem_take {l : Noted} {k : Nat} (h : k < l.length) (x : ByteArray × Int) : x ∈ l.take (k + 1) ↔ x ∈ l.take k ∨ x = l[k] := by
  rw [List.take_succ_eq_append_getElem h, List.mem_append, List.mem_singleton]
theorem manyK_take {l : Noted} {k : Nat} (h : k < l.length) (s : ByteArray) : manyK s (l.take (k + 1)) = manyK s (l.take k) + if l[k].1 = s then 1 else 0 := by
  rw [List.take_succ_eq_append_getElem h]
  exact manyK_snoc s l[k].1 l[k].2 (l.take k)
theorem manyK_le (l : Noted) (s : ByteArray) : manyK s l ≤ l.length := List.countP_le_length
set_option maxRecDepth 100000 in
set_option maxHeartbeats 8000000 in
theorem seenOnce_law {n : Nat} {w : World} {AA : Option Addr} {capA : Nat} {acts : Noted} (hra : Reads1 w AA (acts.flatMap encQ)) (hsz : ∀ a ∈ acts, a.1.size ≤ maxLen) :
    CallsIn Fence.wide n Try.prog 3 #[.slice AA acts.length capA] w fun e w' => e = .returned (.bool true) ∧ Upd (fun _ => False) w w' := by
  have hrwa := Lib.hid fun W (h : Upd (fun _ => False) w W) => hra.agree' (w' := W) (h.agree fun j hj => ⟨hra.lt' j hj, id⟩)
  clear hra
  have k1 := (newA_c (n := 0) (W := w)).mono (R' := fun e W1 => ∃ sb, e = .returned (.pointer (some ⟨sb, 0, none⟩)) ∧
      CallsIn Fence.wide 0 Try.prog 8 #[] W1 (fun e W3 => e = .returned (.bool true) ∧ (∃ F, OnceR sb [] [] (.slice none 0 0) [] F w W3) ∧
        CallsIn Fence.wide 0 Try.prog 8 #[] W3 (fun e W4 => e = .returned (.bool true) ∧ Upd (fun _ => False) w W4))) (by
    rintro e W1 ⟨sb, F, rfl, g1, g2, g3⟩
    refine ⟨sb, rfl, (awake_c (n := 0)).mono ?_⟩
    rintro e W3 ⟨rfl, u3⟩
    refine ⟨rfl, ⟨F, g1.upd u3 fun _ _ => id, OkS.nil, OnceInv.nil, World.ownsRow_nil _ _ _ 2, fun j hj => by simp [Value.ownBlock] at hj, g2, g3.trans' u3⟩, (awake_c (n := 0)).mono ?_⟩
    rintro e W4 ⟨rfl, u4⟩
    exact ⟨rfl, (g3.trans' u3).trans' u4⟩)
  replace k1 := Lib.hid k1
  refine callsIn_any (n := 0) (callsIn_of_wp Try.func3 rfl trivial ?_)
  simp only [Try.ntmps3, List.size_toArray, List.length_cons, List.length_nil, Nat.reduceAdd, Nat.reduceSub, Array.replicate_succ, Array.replicate_zero, List.push_toArray, List.append_toArray, List.nil_append, List.cons_append]
  by_cases hl : acts.length ≤ 150
  · skip
    gi_wp2_with (first | refine (⟨trivial, rfl, ?_⟩ : Fence.wide.fn _ ∧ Fence.wide.depth = none ∧ _) | (gi_at_call 7; (with_reducible refine k1.out.mono ?_); rintro e W1 ⟨sb, rfl, k2⟩; (replace k2 := Lib.hid k2)) | (gi_at_call 8; (with_reducible refine k2.out.mono ?_); rintro e W3 ⟨rfl, h0, _⟩; (replace h0 := Lib.hid h0)) | refine (⟨trivial, ?_⟩ : Fence.wide.fn _ ∧ _))
    clear k1 k2
    gi_loopw [27, 4] (fun u v wr => ∃ (k : Nat) (no : Noted) (ls : Srcs) (F : Nat → Prop), u = .int .i64 k ∧ k ≤ acts.length ∧ no.length ≤ k ∧ OnceR sb no no v ls F w wr) (fun u _ _ => acts.length - (intOf u).toNat)
    case atStart =>
      obtain ⟨F, h⟩ := h0.out
      exact ⟨0, [], [], F, rfl, Nat.zero_le _, Nat.le_refl _, h⟩
    case round =>
      clear h0
      obtain ⟨k, no, ls, F, rfl, hk, hok, hI⟩ := hrel
      by_cases hlt : k < acts.length
      · have hsz' := hsz acts[k] (List.getElem_mem _)
        obtain ⟨A3, cap3, rfl⟩ := own_shape hI.row
        obtain ⟨g, o, rfl, c1, c2⟩ := acts14_at (hrwa.out _ hI.base) hlt
        have hw5 : IntKind.i64.wrap ((k : Int) + 1) = (k : Int) + 1 := Go.IntWalk.i64_in _ ⟨by omega, by omega⟩
        obtain ⟨a, ha⟩ : ∃ a, acts[k] = a := ⟨_, rfl⟩
        rw [ha] at c1 c2 hsz'
        clear ha
        obtain ⟨src, seq⟩ := a
        simp only at c1 c2 hsz'
        have uA := Upd.alloc (fun _ => False) wr (.cells #[.string src, .int .i64 seq] 27)
        have bA := Blk.new wr #[.string src, .int .i64 seq] 27
        have kW := (wordA_c (n := 0) (w := wr.alloc (.cells #[.string src, .int .i64 seq] 27)) hsz').mono (R' := fun e W2 => AnyB e ∧ W2.cell? ⟨wr.heap.size, 1, none⟩ = some (.int .i64 seq) ∧ (OnceR sb no no (.slice A3 no.length cap3) ls F w W2 ∧ Blk W2 wr.heap.size #[.string src, .int .i64 seq] 27)) (by
          rintro e W2 ⟨hb, u2⟩
          exact ⟨hb, (bA.upd u2 id).cell 1, (hI.upd uA).upd u2, bA.upd u2 id⟩)
        replace kW := Lib.hid kW
        have f0 : (wr.alloc (.cells #[.string src, .int .i64 seq] 27)).cell? ⟨wr.heap.size, 0, none⟩ = some (.string src) := bA.cell 0
        clear uA bA hsz'
        replace hI := Lib.hid hI
        by_cases hq1 : 1 ≤ seq
        · by_cases hq2 : seq ≤ 1099511627776
          · skip
            gi_wp2_with (first | refine (⟨trivial, rfl, ?_⟩ : Fence.wide.fn _ ∧ Fence.wide.depth = none ∧ _) | (gi_at_call 9; (with_reducible refine kW.out.mono ?_); rintro e W2 ⟨⟨b, rfl⟩, x1, hS⟩; (replace hS := Lib.hid hS); (cases b)) | refine (⟨trivial, ?_⟩ : Fence.wide.fn _ ∧ _))
            · exact ⟨⟨k + 1, no, ls, F, by go_num, by omega, by omega, hS.out.1⟩, by simp [intOf]; omega⟩
            · have hbx : ¬ F wr.heap.size := fun hh => Nat.lt_irrefl _ (hI.out.a.lt _ hh)
              clear kW f0 hI c1 c2
              generalize wr.heap.size = bx at *
              gi_loopw [7, 8, 47] (fun m t i wr2 => ∃ (j : Nat) (b : Bool), i = .int .i64 j ∧ j ≤ no.length ∧ m = .int .i64 (manyK src (no.take j)) ∧ t = .bool b ∧ Hid (b = true ↔ (src, seq) ∈ no.take j) ∧ Upd (fun _ => False) W2 wr2) (fun _ _ i _ => no.length - (intOf i).toNat)
              case atStart => exact ⟨0, false, rfl, Nat.zero_le _, rfl, rfl, Lib.hid (by simp), Upd.refl _ _⟩
              case round =>
                obtain ⟨j, b, rfl, hj, rfl, rfl, hb, hu⟩ := hrel
                have hI2 := (hS.out.1).upd hu
                have bA := (hS.out.2).upd hu id
                have hml := manyK_le (no.take j) src
                have hjl : (no.take j).length ≤ j := List.length_take_le _ _
                by_cases hlt2 : j < no.length
                · obtain ⟨A4, cap4, e4, hre⟩ := hI2.reads
                  cases e4
                  obtain ⟨g2, o2, rfl, d1, d2⟩ := acts14_at (hre _ (Upd.refl _ _)) hlt2
                  have hm1 := mem_take hlt2 (src, seq)
                  have hm2 := manyK_take hlt2 src
                  obtain ⟨y, hy⟩ : ∃ y, no[j] = y := ⟨_, rfl⟩
                  rw [hy] at d1 d2 hm1 hm2
                  clear hy hre
                  obtain ⟨nm, q2⟩ := y
                  simp only at d1 d2 hm1 hm2
                  have hw6 : IntKind.i64.wrap ((j : Int) + 1) = (j : Int) + 1 := Go.IntWalk.i64_in _ ⟨by omega, by omega⟩
                  have hw7 : IntKind.i64.wrap ((manyK src (no.take j) : Int) + 1) = (manyK src (no.take j) : Int) + 1 := Go.IntWalk.i64_in _ ⟨by omega, by omega⟩
                  have bN := Blk.new wr #[.string nm, .int .i64 q2] 27
                  have y0 : (wr.alloc (.cells #[.string nm, .int .i64 q2] 27)).cell? ⟨wr.heap.size, 0, none⟩ = some (.string nm) := bN.cell 0
                  have y1 : (wr.alloc (.cells #[.string nm, .int .i64 q2] 27)).cell? ⟨wr.heap.size, 1, none⟩ = some (.int .i64 q2) := bN.cell 1
                  have z0 : wr.cell? ⟨bx, 0, none⟩ = some (.string src) := bA.cell 0
                  have z1 : wr.cell? ⟨bx, 1, none⟩ = some (.int .i64 seq) := bA.cell 1
                  have zl := bA.lt
                  have zn : bx ≠ wr.heap.size := by omega
                  have hua := hu.stepAlloc (.cells #[.string nm, .int .i64 q2] 27)
                  replace hm1 := Lib.hid hm1
                  replace hm2 := Lib.hid hm2
                  replace hua := Lib.hid hua
                  generalize manyK src (no.take j) = mj at *
                  clear bN bA hI2 hu hjl
                  by_cases hq : q2 = seq
                  · subst hq
                    by_cases hn : nm = src
                    · subst hn
                      cases b
                      all_goals
                        gi_wp2
                        all_goals first
                          | contradiction
                          | exact ⟨⟨j + 1, _, by go_num, by omega, by rw [hm2.out]; first | (rw [if_pos rfl]; go_num) | (rw [if_neg hn]; go_num), rfl, Lib.hid (by rw [hm1.out]; have h2 := hb.out; simp only [Prod.mk.injEq]; simp), hua.out⟩, by simp [intOf]; omega⟩
                    · have hn1 : ¬ nm.toList = src.toList := fun e => hn (bytes_ext e)
                      have hn2 : (nm.toList == src.toList) = false := by simpa using hn1
                      cases b
                      all_goals
                        gi_wp2
                        all_goals first
                          | contradiction
                          | exact ⟨⟨j + 1, _, by go_num, by omega, by rw [hm2.out]; first | (rw [if_pos rfl]; go_num) | (rw [if_neg hn]; go_num), rfl, Lib.hid (by rw [hm1.out]; have h2 := hb.out; simp only [Prod.mk.injEq]; (try simp only [Bool.false_eq_true, false_iff, true_iff] at h2 ⊢); first | exact .inl h2 | exact fun hh => hh.elim h2 (fun hh => hn hh.1.symm)), hua.out⟩, by simp [intOf]; omega⟩
                  · have hqb : (q2 == seq) = false := by simpa using hq
                    by_cases hn : nm = src
                    · subst hn
                      cases b
                      all_goals
                        gi_wp2
                        all_goals first
                          | contradiction
                          | exact ⟨⟨j + 1, _, by go_num, by omega, by rw [hm2.out]; first | (rw [if_pos rfl]; go_num) | (rw [if_neg hn]; go_num), rfl, Lib.hid (by rw [hm1.out]; have h2 := hb.out; simp only [Prod.mk.injEq]; (try simp only [Bool.false_eq_true, false_iff, true_iff] at h2 ⊢); first | exact .inl h2 | exact fun hh => hh.elim h2 (fun hh => hq hh.2.symm)), hua.out⟩, by simp [intOf]; omega⟩
                    · have hn1 : ¬ nm.toList = src.toList := fun e => hn (bytes_ext e)
                      have hn2 : (nm.toList == src.toList) = false := by simpa using hn1
                      cases b
                      all_goals
                        gi_wp2
                        all_goals first
                          | contradiction
                          | exact ⟨⟨j + 1, _, by go_num, by omega, by rw [hm2.out]; first | (rw [if_pos rfl]; go_num) | (rw [if_neg hn]; go_num), rfl, Lib.hid (by rw [hm1.out]; have h2 := hb.out; simp only [Prod.mk.injEq]; (try simp only [Bool.false_eq_true, false_iff, true_iff] at h2 ⊢); first | exact .inl h2 | exact fun hh => hh.elim h2 (fun hh => hq hh.2.symm)), hua.out⟩, by simp [intOf]; omega⟩
                · obtain rfl : j = no.length := by omega
                  rw [List.take_length] at hb hml ⊢
                  have z0 : wr.cell? ⟨bx, 0, none⟩ = some (.string src) := bA.cell 0
                  have z1 : wr.cell? ⟨bx, 1, none⟩ = some (.int .i64 seq) := bA.cell 1
                  have kN := hI2.note (k := src) (q := seq) hq1
                  have tw := hI2.inv.twice (k := src) (q := seq)
                  have fi := hI2.inv.first (k := src) (q := seq) hq1
                  have cv := canS_vals src seq ls
                  generalize canS src seq ls = cs at *
                  have zl := bA.lt
                  have bF := fun V (hu2 : Upd F wr V) => bA.upd hu2 hbx
                  generalize hmj : manyK src no = mj at *
                  clear hmj hI2
                  have hcase : (cs = 0 ∧ b = false ∧ ((0 < mj ∧ mj ≤ 32) ∨ mj = 0 ∨ 32 < mj)) ∨ ((cs = 13 ∧ b = true) ∨ ((cs = 13 ∨ cs = 16) ∧ b = false ∧ (mj = 0 ∨ 32 < mj))) := by
                    cases b with
                    | true => exact .inr (.inl ⟨tw (hb.out.1 rfl), rfl⟩)
                    | false =>
                      have hno : (src, seq) ∉ no := fun h => by have := hb.out.2 h; cases this
                      have fi := fi hno
                      have hm3 : (0 < mj ∧ mj ≤ 32) ∨ mj = 0 ∨ 32 < mj := by omega
                      rcases cv with h | h | h
                      · exact .inl ⟨h, rfl, hm3⟩
                      · exact .inr (.inr ⟨.inl h, rfl, hm3.elim (fun h2 => by have := fi h2.1 h2.2; omega) id⟩)
                      · exact .inr (.inr ⟨.inr h, rfl, hm3.elim (fun h2 => by have := fi h2.1 h2.2; omega) id⟩)
                  replace kN := Lib.hid kN
                  replace bF := Lib.hid bF
                  clear tw fi cv bA hb
                  rcases hcase with ⟨rfl, rfl, (⟨m0, m1⟩ | rfl | m0)⟩ | (⟨rfl, rfl⟩ | ⟨(rfl | rfl), rfl, (rfl | m0)⟩)
                  iterate 3
                    · skip
                      gi_wp2_with (first | refine (⟨trivial, rfl, ?_⟩ : Fence.wide.fn _ ∧ Fence.wide.depth = none ∧ _) | (gi_at_call 10; (with_reducible refine kN.out.mono ?_); rintro e W5 ⟨rfl, u5, ky, kn⟩; (clear kn); (obtain ⟨ls', F', hJ⟩ := ky rfl); (clear ky); (have hrow := hJ.row); (have hzJ := hJ.base.size); (have e0 : W5.cell? ⟨bx, 0, none⟩ = some (.string src) := (bF.out _ u5).cell 0); (have e1 : W5.cell? ⟨bx, 1, none⟩ = some (.int .i64 seq) := (bF.out _ u5).cell 1); (replace hJ := Lib.hid hJ); (clear u5)) | ((with_reducible refine app2 Try.underlying22 infoQ zQ (by omega) hrow ?_ ?_ ?_ ?_ ?_ ?_ ?_); omega; omega; rfl; rfl; rfl; rfl; intro g' cap' w' h1 h2 h3 h4; have hK := Lib.hid (hJ.out.push (x := (src, seq)) h1 h2 h3); clear h1 h2 h3 h4) | refine (⟨trivial, ?_⟩ : Fence.wide.fn _ ∧ _))
                      exact ⟨⟨k + 1, no ++ [(src, seq)], ls', F', by go_num, by omega, by (simp; omega), by simpa using hK.out⟩, by simp [intOf]; omega⟩
                  all_goals
                    skip
                    gi_wp2_with (first | refine (⟨trivial, rfl, ?_⟩ : Fence.wide.fn _ ∧ Fence.wide.depth = none ∧ _) | (gi_at_call 10; (with_reducible refine kN.out.mono ?_); rintro e W5 ⟨rfl, u5, ky, kn⟩; (clear ky); (obtain ⟨F', hJ⟩ := kn (by decide)); (clear kn); (replace hJ := Lib.hid hJ); (clear u5)) | refine (⟨trivial, ?_⟩ : Fence.wide.fn _ ∧ _))
                    exact ⟨⟨k + 1, no, ls, F', by go_num, by omega, by omega, hJ.out⟩, by simp [intOf]; omega⟩
          · skip
            gi_wp2_with (first | refine (⟨trivial, rfl, ?_⟩ : Fence.wide.fn _ ∧ Fence.wide.depth = none ∧ _) | (gi_at_call 9; (with_reducible refine kW.out.mono ?_); rintro e W2 ⟨⟨b, rfl⟩, x1, hS⟩; (replace hS := Lib.hid hS); (cases b)) | refine (⟨trivial, ?_⟩ : Fence.wide.fn _ ∧ _))
            all_goals exact ⟨⟨k + 1, no, ls, F, by go_num, by omega, by omega, hS.out.1⟩, by simp [intOf]; omega⟩
        · skip
          gi_wp2_with (first | refine (⟨trivial, rfl, ?_⟩ : Fence.wide.fn _ ∧ Fence.wide.depth = none ∧ _) | (gi_at_call 9; (with_reducible refine kW.out.mono ?_); rintro e W2 ⟨⟨b, rfl⟩, x1, hS⟩; (replace hS := Lib.hid hS); (cases b)) | refine (⟨trivial, ?_⟩ : Fence.wide.fn _ ∧ _))
          all_goals exact ⟨⟨k + 1, no, ls, F, by go_num, by omega, by omega, hS.out.1⟩, by simp [intOf]; omega⟩
      · obtain rfl : k = acts.length := by omega
        have hB := Lib.hid hI.base
        clear hI
        gi_wp2_with (first | refine (⟨trivial, rfl, ?_⟩ : Fence.wide.fn _ ∧ Fence.wide.depth = none ∧ _) | refine (⟨trivial, ?_⟩ : Fence.wide.fn _ ∧ _))
        go_ret
        exact ⟨rfl, hB.out⟩
  · have hl' : 150 < acts.length := by omega
    gi_wp2_with (first | refine (⟨trivial, rfl, ?_⟩ : Fence.wide.fn _ ∧ Fence.wide.depth = none ∧ _) | (gi_at_call 7; (with_reducible refine k1.out.mono ?_); rintro e W1 ⟨sb, rfl, k2⟩; (replace k2 := Lib.hid k2)) | (gi_at_call 8; (with_reducible refine k2.out.mono ?_); rintro e W3 ⟨rfl, _, k3⟩; (replace k3 := Lib.hid k3)) | (gi_at_call 8; (with_reducible refine k3.out.mono ?_); rintro e W4 ⟨rfl, u4⟩; (replace u4 := Lib.hid u4)) | refine (⟨trivial, ?_⟩ : Fence.wide.fn _ ∧ _))
    go_ret
    exact ⟨rfl, u4.out⟩
end Go.Proofs.Ytgleiajmdbekiaa

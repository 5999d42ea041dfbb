/- silo: the document's Range. -/
import Derived.Test.YtadeechoknpjhaaProg
import Derived.Test.YtadeechoknpjhaaBase
import Derived.Test.YtadeechoknpjhaaSlL
set_option linter.unusedSimpArgs false
set_option linter.unusedVariables false
namespace Go.Proofs.Ytadeechoknpjhaa
open Go.RowKit Go.Shelf
attribute [local go_sem] Oper.semAt_some

/-- Is an entry of a range? -/
abbrev fitsR (k : KCE) (to : Int) (v : VCE) : Prop := v.key = k.1 ∧ v.pol = k.2.1 ∧ v.kd = k.2.2.1 ∧ k.2.2.2 ≤ v.st ∧ v.st < to
def fitL (k : KCE) (to : Int) (vs : List VCE) : List VCE := vs.filter fun v => decide (fitsR k to v)
theorem fitL_take {k : KCE} {to : Int} {vs : List VCE} {i : Nat} (h : i < vs.length) : fitL k to (vs.take (i + 1)) = if fitsR k to vs[i] then fitL k to (vs.take i) ++ [vs[i]] else fitL k to (vs.take i) := by
  simp only [fitL]
  rw [List.take_succ_eq_append_getElem h, List.filter_append]
  by_cases hc : fitsR k to vs[i]
  · rw [if_pos hc, List.filter_cons, if_pos (by simpa using hc), List.filter_nil]
  · rw [if_neg hc, List.filter_cons, if_neg (by simpa using hc), List.filter_nil, List.append_nil]
theorem app16 {T : TypeId} {F : Fence} {n : Nat} {P : Program} {E : TypeId} {z : Value} {bytes : Nat} (hT : P.underlying T = some (.slice E)) (hI : (P.info? E).map (fun i => (i.zero, i.size, i.bytes)) = some (some z, 16, bytes)) (hz : z.cells.size = 16) (hby : bytes ≤ 1024)
    {ops : Array Oper} {rest : List Oper} {a : Act} {Q : Exit → Act → World → Prop} {s x : Operand} {dst : Option Tmp} {ty : TypeId} {pos : String} {aft : Array Edge} {wr : World} {base k : Nat} {v : Value} {xs : List Value} {y : VCE}
    (hown : wr.ownsRow base E 16 v k xs) (hb : base ≤ wr.heap.size) (hk : k < 1073741824) (hs : a.eval s = v) (hx : a.eval x = .slice (some ⟨wr.heap.size, 0, none⟩) 1 1)
    (hK : ∀ g cap w', w'.ownsRow base E 16 (.slice (some ⟨g, 0, none⟩) (k + 1) cap) (k + 1) (xs ++ cellsE y) → Upd (fun j => v.ownBlock = some j) wr w' → (v.ownBlock = some g ∨ wr.heap.size ≤ g) → g < w'.heap.size →
      wpListIn F n P ops Q rest (a.put dst (.slice (some ⟨g, 0, none⟩) (k + 1) cap)) w') :
    wpListIn F n P ops Q (Oper.mk dst (.call (Call.mk (.builtin .append) #[s, x] #[T, T])) ty pos aft none :: rest) a (wr.alloc (.cells #[.int .i64 (y).ep, .string (y).key, .string (y).pol, .int .i64 (y).kd, .int .i64 (y).st, .int .i64 (y).rev, .bool (y).fin, .int .i64 (y).rk, .int .i64 (y).cnt, .int .i64 (y).sum, .int .i64 (y).mn, .int .i64 (y).mx, .int .i64 (y).q0, .int .i64 (y).q1, .int .i64 (y).q2, .bool (y).over] E)) :=
  appE (news := cellsE y) hT hI hz (by omega) hby hown hb hk rfl (fun u hu => flatE_one [y] u (by simpa [flatE] using hu)) hs hx hK
section
variable {vs : List VCE} {A : Option Addr} {cap : Nat} {W : World} {f : Int}
set_option maxRecDepth 100000 in
set_option maxHeartbeats 8000000 in
theorem range20_c {n : Nat} {q : KCE} {to : Int} (hr : Reads1 W A (flatE vs)) (hl : vs.length ≤ 100000) :
    CallsIn Fence.wide n Try.prog 13 #[.agg #[.int .i64 f, .slice A vs.length cap], .string q.1, .string q.2.1, .int .i64 q.2.2.1, .int .i64 q.2.2.2, .int .i64 to] W fun e W2 => ∃ A' cap', e = .returned (.slice A' (fitL q to vs).length cap') ∧ (fitL q to vs).length ≤ cap' ∧ Reads1 W2 A' (flatE (fitL q to vs)) ∧ (∀ j, blkOf A' j → W.heap.size ≤ j ∧ j < W2.heap.size) ∧ Upd (fun _ => False) W W2 := by
  have u1 := Upd.alloc (fun _ => False) W (.cells #[.int .i64 f, .slice A vs.length cap] 33)
  have b1 := Blk.new W #[.int .i64 f, .slice A vs.length cap] 33
  have hrW := Lib.hid fun V (u : Upd (fun _ => False) W V) => hr.agree' (w' := V) (u.agree fun j hj => ⟨hr.lt' j hj, id⟩)
  have zb := b1.lt
  clear hr
  replace b1 := Lib.hid b1
  replace u1 := Lib.hid u1
  refine callsIn_any (n := 0) (callsIn_of_wp Try.func13 rfl trivial ?_)
  simp only [Try.ntmps13, List.size_toArray, List.length_cons, List.length_nil, Nat.reduceAdd, Nat.reduceSub, Array.replicate_succ, Array.replicate_zero, List.push_toArray, List.append_toArray, List.nil_append, List.cons_append]
  gi_wp2
  gi_loopw [19, 13] (fun i v wr => ∃ k : Nat, i = .int .i64 k ∧ k ≤ vs.length ∧ Blk wr W.heap.size #[.int .i64 f, .slice A vs.length cap] 33 ∧ wr.ownsRow (W.heap.size + 1) 61 16 v (fitL q to (vs.take k)).length (flatE (fitL q to (vs.take k))) ∧ Upd (fun _ => False) W wr) (fun i _ _ => vs.length - (intOf i).toNat)
  case atStart => exact ⟨0, rfl, Nat.zero_le _, b1.out, World.ownsRow_nil _ _ _ 16, u1.out⟩
  case round =>
    obtain ⟨k, rfl, hk, hB, hO, hu⟩ := hrel
    by_cases hlt : k < vs.length
    · obtain ⟨g, o, rfl, hat⟩ := atE_at (hrW.out _ hu) hlt
      have hw5 : IntKind.i64.wrap ((k : Int) + 1) = (k : Int) + 1 := Go.IntWalk.i64_in _ ⟨by omega, by omega⟩
      have htk := fitL_take (k := q) (to := to) hlt
      obtain ⟨s, hs⟩ : ∃ s, fitL q to (vs.take k) = s := ⟨_, rfl⟩
      have hsl : s.length ≤ 100000 := by
        rw [← hs]
        have h1 : (fitL q to (vs.take k)).length ≤ (vs.take k).length := List.length_filter_le _ _
        have h2 : (vs.take k).length ≤ vs.length := by rw [List.length_take]; omega
        omega
      rw [hs] at hO htk
      clear hs
      obtain ⟨x, hx⟩ : ∃ x, vs[k] = x := ⟨_, rfl⟩
      rw [hx] at hat htk
      clear hx
      have ua := Upd.alloc (fun _ => False) wr (.cells #[.string (x).key, .string (x).pol, .int .i64 (x).kd, .int .i64 (x).st] 24)
      have c1 : wr.cell? ⟨W.heap.size, 1, none⟩ = some (.slice (some ⟨g, o, none⟩) vs.length cap) := hB.cell 1
      have hatA : (wr.alloc (.cells #[.string (x).key, .string (x).pol, .int .i64 (x).kd, .int .i64 (x).st] 24)).cell? ⟨g, o + k * 16, none⟩ = some (.int .i64 (x).ep) ∧ (wr.alloc (.cells #[.string (x).key, .string (x).pol, .int .i64 (x).kd, .int .i64 (x).st] 24)).cell? ⟨g, o + k * 16 + 1, none⟩ = some (.string (x).key) ∧ (wr.alloc (.cells #[.string (x).key, .string (x).pol, .int .i64 (x).kd, .int .i64 (x).st] 24)).cell? ⟨g, o + k * 16 + 2, none⟩ = some (.string (x).pol) ∧ (wr.alloc (.cells #[.string (x).key, .string (x).pol, .int .i64 (x).kd, .int .i64 (x).st] 24)).cell? ⟨g, o + k * 16 + 3, none⟩ = some (.int .i64 (x).kd) ∧ (wr.alloc (.cells #[.string (x).key, .string (x).pol, .int .i64 (x).kd, .int .i64 (x).st] 24)).cell? ⟨g, o + k * 16 + 4, none⟩ = some (.int .i64 (x).st) ∧ (wr.alloc (.cells #[.string (x).key, .string (x).pol, .int .i64 (x).kd, .int .i64 (x).st] 24)).cell? ⟨g, o + k * 16 + 5, none⟩ = some (.int .i64 (x).rev) ∧ (wr.alloc (.cells #[.string (x).key, .string (x).pol, .int .i64 (x).kd, .int .i64 (x).st] 24)).cell? ⟨g, o + k * 16 + 6, none⟩ = some (.bool (x).fin) ∧ (wr.alloc (.cells #[.string (x).key, .string (x).pol, .int .i64 (x).kd, .int .i64 (x).st] 24)).cell? ⟨g, o + k * 16 + 7, none⟩ = some (.int .i64 (x).rk) ∧ (wr.alloc (.cells #[.string (x).key, .string (x).pol, .int .i64 (x).kd, .int .i64 (x).st] 24)).cell? ⟨g, o + k * 16 + 8, none⟩ = some (.int .i64 (x).cnt) ∧ (wr.alloc (.cells #[.string (x).key, .string (x).pol, .int .i64 (x).kd, .int .i64 (x).st] 24)).cell? ⟨g, o + k * 16 + 9, none⟩ = some (.int .i64 (x).sum) ∧ (wr.alloc (.cells #[.string (x).key, .string (x).pol, .int .i64 (x).kd, .int .i64 (x).st] 24)).cell? ⟨g, o + k * 16 + 10, none⟩ = some (.int .i64 (x).mn) ∧ (wr.alloc (.cells #[.string (x).key, .string (x).pol, .int .i64 (x).kd, .int .i64 (x).st] 24)).cell? ⟨g, o + k * 16 + 11, none⟩ = some (.int .i64 (x).mx) ∧ (wr.alloc (.cells #[.string (x).key, .string (x).pol, .int .i64 (x).kd, .int .i64 (x).st] 24)).cell? ⟨g, o + k * 16 + 12, none⟩ = some (.int .i64 (x).q0) ∧ (wr.alloc (.cells #[.string (x).key, .string (x).pol, .int .i64 (x).kd, .int .i64 (x).st] 24)).cell? ⟨g, o + k * 16 + 13, none⟩ = some (.int .i64 (x).q1) ∧ (wr.alloc (.cells #[.string (x).key, .string (x).pol, .int .i64 (x).kd, .int .i64 (x).st] 24)).cell? ⟨g, o + k * 16 + 14, none⟩ = some (.int .i64 (x).q2) ∧ (wr.alloc (.cells #[.string (x).key, .string (x).pol, .int .i64 (x).kd, .int .i64 (x).st] 24)).cell? ⟨g, o + k * 16 + 15, none⟩ = some (.bool (x).over) := ⟨cell_upd ua hat.c0, cell_upd ua hat.c1, cell_upd ua hat.c2, cell_upd ua hat.c3, cell_upd ua hat.c4, cell_upd ua hat.c5, cell_upd ua hat.c6, cell_upd ua hat.c7, cell_upd ua hat.c8, cell_upd ua hat.c9, cell_upd ua hat.c10, cell_upd ua hat.c11, cell_upd ua hat.c12, cell_upd ua hat.c13, cell_upd ua hat.c14, cell_upd ua hat.c15⟩
      obtain ⟨x0, x1, x2, x3, x4, x5, x6, x7, x8, x9, x10, x11, x12, x13, x14, x15⟩ := hatA
      obtain ⟨w0, w1, w2, w3, w4, w5, w6, w7, w8, w9, w10, w11, w12, w13, w14, w15⟩ := hat
      have a1 : (wr.alloc (.cells #[.string (x).key, .string (x).pol, .int .i64 (x).kd, .int .i64 (x).st] 24)).cell? ⟨W.heap.size, 1, none⟩ = some (.slice (some ⟨g, o, none⟩) vs.length cap) := (hB.upd ua id).cell 1
      obtain ⟨A3, cap3, rfl⟩ := own_shape hO
      have hlB := hB.lt
      have hO' := own_agree hO (w' := wr.alloc (.cells #[.string (x).key, .string (x).pol, .int .i64 (x).kd, .int .i64 (x).st] 24)) (ua.agree fun j hj => ⟨(hO.lt j hj).2, id⟩)
      have hB' := hB.upd ua id
      have huA := hu.trans' ua
      have hz := huA.size
      obtain ⟨V1, hV⟩ : ∃ V1, wr.alloc (.cells #[.string (x).key, .string (x).pol, .int .i64 (x).kd, .int .i64 (x).st] 24) = V1 := ⟨_, rfl⟩
      have hzw : W.heap.size + 1 ≤ V1.heap.size := by
        have h5 := hB'.lt
        rw [hV] at h5
        omega
      have hzx : W.heap.size + 1 ≤ (wr.alloc (.cells #[.string (x).key, .string (x).pol, .int .i64 (x).kd, .int .i64 (x).st] 24)).heap.size := by rw [hV]; exact hzw
      clear hB hO hu ua
      by_cases hcc : fitsR q to x
      · rw [if_pos hcc] at htk
        have fin : ∀ g' cap' w', w'.ownsRow (W.heap.size + 1) 61 16 (.slice (some ⟨g', 0, none⟩) (s.length + 1) cap') (s.length + 1) (flatE s ++ cellsE x) → Upd (fun j => (Value.slice A3 s.length cap3).ownBlock = some j) (wr.alloc (.cells #[.string (x).key, .string (x).pol, .int .i64 (x).kd, .int .i64 (x).st] 24)) w' →
            Blk w' W.heap.size #[.int .i64 f, .slice (some ⟨g, o, none⟩) vs.length cap] 33 ∧ w'.ownsRow (W.heap.size + 1) 61 16 (.slice (some ⟨g', 0, none⟩) (s.length + 1) cap') (fitL q to (vs.take (k + 1))).length (flatE (fitL q to (vs.take (k + 1)))) ∧ Upd (fun _ => False) W w' := by
          intro g' cap' w' h1 h2
          have hge : ∀ j, (Value.slice A3 s.length cap3).ownBlock = some j → W.heap.size + 1 ≤ j := fun j hj => own_ge hO' j hj
          refine ⟨hB'.upd h2 fun h => by have := hge _ h; omega, ?_, huA.trans h2 fun j hj => .inr (by have := hge j hj; omega)⟩
          rw [htk, flatE_append, List.length_append]
          have e1 : flatE [x] = cellsE x := by simp [flatE]
          rw [e1]
          exact h1
        replace fin := Lib.hid fin
        obtain ⟨d1, d2, d3, d4, d5⟩ := hcc
        have t1 : (x.key.toList == q.1.toList) = true := by rw [d1]; simp
        have t2 : (x.pol.toList == q.2.1.toList) = true := by rw [d2]; simp
        have t3 : (x.kd == q.2.2.1) = true := by rw [d3]; simp
        clear hB' htk d1 d2 d3 huA hV
        gi_wp2_with (first | ((with_reducible refine app16 (y := x) Try.underlying31 infoE zE (by omega) hO' ?_ ?_ ?_ ?_ ?_); exact hzx; omega; rfl; (rw [World.size_alloc]; rfl); intro g' cap' w' h1 h2 h3 h4; have kk := Lib.hid (fin.out g' cap' w' h1 h2); clear h1 h2 h3 h4))
        obtain ⟨p1, p2, p3⟩ := kk.out
        exact ⟨⟨k + 1, by go_num, by omega, p1, p2, p3⟩, by show vs.length - ((k : Int) + 1).toNat < vs.length - (k : Int).toNat; omega⟩
      · rw [if_neg hcc] at htk
        have fin := Lib.hid (show Blk (wr.alloc (.cells #[.string (x).key, .string (x).pol, .int .i64 (x).kd, .int .i64 (x).st] 24)) W.heap.size #[.int .i64 f, .slice (some ⟨g, o, none⟩) vs.length cap] 33 ∧ (wr.alloc (.cells #[.string (x).key, .string (x).pol, .int .i64 (x).kd, .int .i64 (x).st] 24)).ownsRow (W.heap.size + 1) 61 16 (.slice A3 s.length cap3) (fitL q to (vs.take (k + 1))).length (flatE (fitL q to (vs.take (k + 1)))) ∧ Upd (fun _ => False) W (wr.alloc (.cells #[.string (x).key, .string (x).pol, .int .i64 (x).kd, .int .i64 (x).st] 24)) from ⟨hB', by rw [htk]; exact hO', huA⟩)
        have dn : (x.key.toList == q.1.toList) = decide (x.key = q.1) := by rw [Bool.eq_iff_iff, beq_iff_eq, toList_inj, decide_eq_true_eq]
        have dm : (x.pol.toList == q.2.1.toList) = decide (x.pol = q.2.1) := by rw [Bool.eq_iff_iff, beq_iff_eq, toList_inj, decide_eq_true_eq]
        clear hB' hO' htk huA hV
        by_cases d1 : x.key = q.1
        · rw [decide_eq_true d1] at dn
          by_cases d2 : x.pol = q.2.1
          · rw [decide_eq_true d2] at dm
            by_cases d3 : x.kd = q.2.2.1
            · have t3 : (x.kd == q.2.2.1) = true := by rw [d3]; simp
              by_cases d4 : q.2.2.2 ≤ x.st
              · have d5 : ¬ x.st < to := fun h => hcc ⟨d1, d2, d3, d4, h⟩
                clear hcc d1 d2 d3
                gi_wp2
                obtain ⟨p1, p2, p3⟩ := fin.out
                exact ⟨⟨k + 1, by go_num, by omega, p1, p2, p3⟩, by show vs.length - ((k : Int) + 1).toNat < vs.length - (k : Int).toNat; omega⟩
              · clear hcc d1 d2 d3
                gi_wp2
                obtain ⟨p1, p2, p3⟩ := fin.out
                exact ⟨⟨k + 1, by go_num, by omega, p1, p2, p3⟩, by show vs.length - ((k : Int) + 1).toNat < vs.length - (k : Int).toNat; omega⟩
            · clear hcc d1 d2
              gi_wp2
              obtain ⟨p1, p2, p3⟩ := fin.out
              exact ⟨⟨k + 1, by go_num, by omega, p1, p2, p3⟩, by show vs.length - ((k : Int) + 1).toNat < vs.length - (k : Int).toNat; omega⟩
          · rw [decide_eq_false d2] at dm
            clear hcc d1 d2
            gi_wp2
            obtain ⟨p1, p2, p3⟩ := fin.out
            exact ⟨⟨k + 1, by go_num, by omega, p1, p2, p3⟩, by show vs.length - ((k : Int) + 1).toNat < vs.length - (k : Int).toNat; omega⟩
        · rw [decide_eq_false d1] at dn
          clear hcc d1 dm
          gi_wp2
          obtain ⟨p1, p2, p3⟩ := fin.out
          exact ⟨⟨k + 1, by go_num, by omega, p1, p2, p3⟩, by show vs.length - ((k : Int) + 1).toNat < vs.length - (k : Int).toNat; omega⟩
    · obtain rfl : k = vs.length := by omega
      rw [List.take_length] at hO
      obtain ⟨A5, cap5, rfl, hn5, hr5, _, hb5⟩ := own_readsS hO
      have hb6 := Lib.hid fun j hj => hO.lt j (hb5 j hj)
      replace hr5 := Lib.hid hr5
      replace hu := Lib.hid hu
      clear hB hO hb5
      gi_wp2_with (first | refine (⟨trivial, rfl, ?_⟩ : Fence.wide.fn _ ∧ Fence.wide.depth = none ∧ _) | refine (⟨trivial, ?_⟩ : Fence.wide.fn _ ∧ _))
      go_ret
      exact ⟨A5, cap5, rfl, hn5, hr5.out, fun j hj => ⟨by have := (hb6.out j hj).1; omega, (hb6.out j hj).2⟩, hu.out⟩
end
end Go.Proofs.Ytadeechoknpjhaa

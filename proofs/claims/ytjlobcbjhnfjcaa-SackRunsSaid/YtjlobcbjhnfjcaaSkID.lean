/- sack's All. Things of kind int. -/
import Derived.Test.YtjlobcbjhnfjcaaProg
import Derived.Test.YtjlobcbjhnfjcaaBase
import Derived.Test.YtjlobcbjhnfjcaaSkIB
import Derived.Test.YtjlobcbjhnfjcaaSkIC
namespace Go.Proofs.Ytjlobcbjhnfjcaa
open Go.RowKit Go.Shelf
attribute [local go_sem] Oper.semAt_some
section SkI
variable {sb : Nat} {ls : List Int} {room : Int} {F : Nat → Prop} {W W2 : World}
theorem sackAllI {n : Nat} : CallsIn Fence.wide n Try.prog 25 #[.pointer (some ⟨sb, 0, none⟩)] W fun e W2 => ∃ bv, e = .returned (.func (.func 36) #[] #[.pointer (some ⟨bv, 0, none⟩)]) ∧ Blk W2 bv #[.pointer (some ⟨sb, 0, none⟩)] 24 ∧ W.heap.size ≤ bv ∧ Upd (fun _ => False) W W2 := by
  refine callsIn_any (n := 0) (callsIn_of_wp Try.func25 rfl trivial ?_)
  simp only [Try.ntmps25, List.size_toArray, List.length_cons, List.length_nil, Nat.reduceAdd, Nat.reduceSub, Array.replicate_succ, Array.replicate_zero, List.push_toArray, List.append_toArray, List.nil_append, List.cons_append]
  gi_wp2_with (first | refine (⟨trivial, rfl, ?_⟩ : Fence.wide.fn _ ∧ Fence.wide.depth = none ∧ _) | refine (⟨trivial, ?_⟩ : Fence.wide.fn _ ∧ _))
  go_ret
  exact ⟨_, rfl, Blk.new _ _ _, Nat.le_refl _, Upd.alloc _ _ _⟩

/-- Each so often: what a walk with a step comes to. -/
def stepNI {σ : Type} (step : σ → Int → σ × Bool) (s : σ) (e : Int × Int) : σ × Option Code := ((goF step s (List.replicate e.2.toNat e.1)).1, if (goF step s (List.replicate e.2.toNat e.1)).2 then none else some .ret)
theorem goR_NI {σ : Type} (step : σ → Int → σ × Bool) : ∀ (lr : List (Int × Int)) (s : σ), goR (stepNI step) s lr = ((goF step s (expand lr)).1, if (goF step s (expand lr)).2 then none else some .ret)
  | [], s => by simp [goR, expand, goF]
  | e :: lr, s => by
    have ex : expand (e :: lr) = List.replicate e.2.toNat e.1 ++ expand lr := rfl
    rw [ex, goF_append]
    have ih := goR_NI step lr (goF step s (List.replicate e.2.toNat e.1)).1
    cases hb : (goF step s (List.replicate e.2.toNat e.1)).2 with
    | true => simp only [goR, stepNI, hb, if_true]; exact ih
    | false => simp only [goR, stepNI, hb, Bool.false_eq_true, if_false]
theorem rep_succ {α : Type} (n : Nat) (x : α) : List.replicate (n + 1) x = List.replicate n x ++ [x] := by rw [List.replicate_succ']

set_option maxRecDepth 100000 in
set_option maxHeartbeats 4000000 in
theorem allSeqKI {w : World} (h : SkI sb ls room F w) (hs : Srt cmpI ls) {bv : Nat} (hbv : Blk w bv #[.pointer (some ⟨sb, 0, none⟩)] 24) :
    SeqO Try.prog (.func (.func 36) #[] #[.pointer (some ⟨bv, 0, none⟩)]) enc1I (ls.map fun x => ((), x)) () () (fun _ _ => True) (fun _ => False) (fun j => j = bv ∨ F j) w where
  fn := ⟨_, _, rfl⟩
  dlt := by
    rintro k (rfl | hk)
    · exact ⟨hbv.lt, id⟩
    · exact ⟨h.lt k hk, id⟩
  elt := fun _ h => h.elim
  stable := fun _ _ _ _ _ => trivial
  run := by
    intro σ step Rep y s S W hx _
    have ee : (ls.map fun x => ((), x)).map (·.2) = ls := by simp [Function.comp_def]
    rw [ee] at hx ⊢
    refine CallV.of_calls (n := 0) (enters_of Try.func36 (by kernel_rfl) rfl) ?_
    obtain ⟨yf, ya, yc, rfl⟩ := hx.shape
    have c1 := (hbv.agree hx.agree (.inl rfl)).cell0
    have hW := h.agree (hx.agree.mono fun j hj => .inr hj)
    have hy0 := Blk.new W #[.func yf ya yc] 64
    have hu0 := Upd.alloc (fun _ => False) W (.cells #[.func yf ya yc] 64)
    have k1 := Lib.hid (sackRunsI (n := 0) (hW.upd hu0 fun _ _ => id))
    have hzw := hx.size
    have hDw : ∀ j, (j = bv ∨ F j) → j < W.heap.size := by
      rintro j (rfl | hj)
      · have := hbv.lt; omega
      · have := h.lt j hj; omega
    have hlen := h.len_le
    clear h hbv hW
    refine callsIn_of_wp_marks Try.func36 rfl trivial ?_
    simp only [Try.ntmps36, List.size_toArray, List.length_cons, List.length_nil, Nat.reduceAdd, Nat.reduceSub, Array.replicate_succ, Array.replicate_zero, List.push_toArray, List.append_toArray, List.nil_append, List.cons_append]
    gi_wp2_with (first | refine (⟨trivial, rfl, ?_⟩ : Fence.wide.fn _ ∧ Fence.wide.depth = none ∧ _) | (gi_at_call 12; (with_reducible refine k1.out.mono ?_); rintro e W2 ⟨br, lr, rfl, hbag, hbr, hu2, hseq⟩; (replace hseq := Lib.hid hseq); (replace hbag := Lib.hid hbag); (replace hu2 := Lib.hid hu2)) | refine (⟨trivial, ?_⟩ : Fence.wide.fn _ ∧ _))
    rename_i KK hKK
    have hexp := hbag.out.expand ordrI hs
    have hpos := hbag.out.pos
    have hy2 := hy0.upd hu2.out id
    have hW2 : Upd (fun _ => False) W W2 := hu0.trans' hu2.out
    have hz2 := hW2.size
    have hzy : W.heap.size < W2.heap.size := hy2.lt
    have eel : (lr.map fun x => ((), x)).map (·.2) = lr := by simp [Function.comp_def]
    have hbr' : W.heap.size < br := by have := hbr; simp at this; omega
    have hyield := hx.yield
    have hstab := hx.stab
    have hown := hx.own
    have hlsl : ∀ pre e suf, lr = pre ++ e :: suf → ∀ j, j < e.2.toNat → ∃ suf', ls = (expand pre ++ List.replicate j e.1) ++ e.1 :: suf' := fun pre e suf hl j hj => by
      rw [← hexp, hl]
      have e1 : expand (pre ++ e :: suf) = expand pre ++ (List.replicate e.2.toNat e.1 ++ expand suf) := by simp [expand]
      obtain ⟨d, hd⟩ : ∃ d, e.2.toNat = j + (d + 1) := ⟨e.2.toNat - j - 1, by omega⟩
      rw [e1, hd, ← List.replicate_append_replicate, List.replicate_succ]
      exact ⟨List.replicate d e.1 ++ expand suf, by simp [List.append_assoc]⟩
    refine wpIn_range_out hseq.out rfl (Nat.le_refl _) (Agree.refl _ _) trivial (fun _ => rfl) (stepNI step) (fun s' S1 W1 => ∃ S', (∀ j, S' j → S1 j ∧ j ≠ W.heap.size) ∧ S1 W.heap.size ∧ Rep s' S' W1 ∧ Blk W1 W.heap.size #[.func yf ya yc] 64) s (fun k => S k ∨ k = W.heap.size) ?hS ?hstab ?hI ?hround ?hend
    case hS =>
      rintro k (hk | rfl)
      · have := (hown k hk).1
        refine ⟨by omega, ?_, id⟩
        rintro (h | ⟨h, _⟩)
        · omega
        · exact (hown k hk).2.1 (.inr h)
      · refine ⟨hzy, ?_, id⟩
        rintro (h | ⟨h, _⟩)
        · omega
        · have := hDw _ (.inr h); omega
    case hstab =>
      rintro s' S1 Wa Wb ⟨S', g1, g2, g3, g4⟩ hA hz
      exact ⟨S', g1, g2, hstab _ _ _ _ g3 (fun j hj => hA j (g1 j hj).1) hz, g4.agree hA g2⟩
    case hI =>
      exact ⟨S, fun j hj => ⟨.inl hj, fun e => by have := (hown j hj).1; omega⟩, .inr rfl, hstab _ _ _ _ hx.rep (hW2.agree fun j hj => ⟨(hown j hj).1, id⟩) hz2, hy2⟩
    case hround =>
      rintro lb pre e suf s1 S1 W1 hlb he hgo ⟨S', g1, g2, g3, g4⟩ hsz hu1 hS1
      rw [eel] at he
      have hsl := hlsl pre e suf he
      have hep := hpos e (by rw [he]; simp)
      rw [goR_NI] at hgo
      have hgo1 : goF step s (expand pre) = (s1, true) := by
        obtain ⟨h1, h2⟩ := Prod.mk.inj hgo
        refine Prod.ext h1 ?_
        cases hb : (goF step s (expand pre)).2 with
        | true => rfl
        | false => rw [hb] at h2; simp at h2
      obtain ⟨x, c⟩ := e
      obtain ⟨m, rfl⟩ := Int.eq_ofNat_of_zero_le (show 0 ≤ c from Int.le_of_lt hep.1)
      simp only [Int.toNat_natCast] at hsl
      have hm : (m : Int) ≤ ls.length := hep.2
      have hlsn : ls.length ≤ 1000 := by omega
      have hz1 := hu1.size
      have hWlb : W.heap.size ≠ lb := by omega
      have hSlb : ∀ j, S' j → j < W1.heap.size ∧ j ≠ lb ∧ j ≠ W.heap.size := fun j hj => ⟨(hS1 j (g1 j hj).1).1, (hS1 j (g1 j hj).1).2.1, (g1 j hj).2⟩
      have hSin : ∀ j, S' j → S j ∨ W.heap.size ≤ j := fun j hj => by
        rcases (hS1 j (g1 j hj).1).2.2 with (h | h) | h
        · exact .inl h
        · exact .inr (by omega)
        · exact .inr (by omega)
      have hWW1 : Upd S W W1 := (hW2.mono (M' := S) fun _ _ h => h.elim).trans hu1 fun k hk => by
        rcases hk with (h | h) | h
        · exact .inl h
        · exact .inr (by omega)
        · exact h.elim
      clear hgo hlsl hpos hexp hbag hseq hKK KK k1 hs hep hu1 ee eel he
      gi_wp2
      refine ⟨Upd.refl _ _, ?_⟩
      intro Wb hub hbs hrec
      replace hbs := Lib.hid hbs
      have hWWb : Upd S W Wb := hWW1.trans hub fun k hk => .inr (by omega)
      have h0 : ∃ (j : Nat) (s2 : σ) (S2 : Nat → Prop), Value.int .i64 0 = .int .i64 j ∧ j ≤ m ∧ goF step s1 (List.replicate j x) = (s2, true) ∧ Rep s2 S2 Wb ∧ Blk Wb W.heap.size #[.func yf ya yc] 64 ∧ (∀ k, S2 k → k < Wb.heap.size ∧ k ≠ W.heap.size ∧ (S' k ∨ Wb.heap.size ≤ k)) ∧ Upd S' Wb Wb :=
        ⟨0, s1, S', rfl, Nat.zero_le _, rfl, hstab _ _ _ _ g3 (hub.agree fun j hj => ⟨(hSlb j hj).1, (hSlb j hj).2.1⟩) hub.size, g4.upd hub hWlb, fun k hk => ⟨by have := (hSlb k hk).1; have := hub.size; omega, (hSlb k hk).2.2, .inl hk⟩, Upd.refl _ _⟩
      have hzW : W.heap.size < Wb.heap.size := (g4.upd hub hWlb).lt
      -- what a round's end says
      have held : ∀ (s3 : σ) (S3 : Nat → Prop) (W3 : World), Rep s3 S3 W3 → Blk W3 W.heap.size #[.func yf ya yc] 64 → (∀ k, S3 k → k < W3.heap.size ∧ k ≠ W.heap.size ∧ (S' k ∨ Wb.heap.size ≤ k)) → Upd S' Wb W3 →
          Held (fun (s' : σ) (S1 : Nat → Prop) W1 => ∃ S', (∀ j, S' j → S1 j ∧ j ≠ W.heap.size) ∧ S1 W.heap.size ∧ Rep s' S' W1 ∧ Blk W1 W.heap.size #[.func yf ya yc] 64) s3 (fun k => S1 k ∨ W1.heap.size ≤ k) Wb W3 := by
        intro s3 S3 W3 q1 q2 q3 q4
        refine ⟨fun k => S3 k ∨ k = W.heap.size, ⟨S3, fun j hj => ⟨.inl hj, (q3 j hj).2.1⟩, .inr rfl, q1, q2⟩, q4.mono fun k _ hk => .inl (g1 k hk).1, ?_⟩
        rintro k (hk | rfl)
        · exact ⟨(q3 k hk).1, (q3 k hk).2.2.elim (fun h => .inl (.inl (g1 k h).1)) .inr⟩
        · exact ⟨q2.lt, .inl (.inl g2)⟩
      replace held := Lib.hid held
      have hcall : ∀ (j : Nat) (s2 : σ) (S2 : Nat → Prop) (wr : World), j < m → goF step s1 (List.replicate j x) = (s2, true) → Rep s2 S2 wr → Blk wr W.heap.size #[.func yf ya yc] 64 → (∀ k, S2 k → k < wr.heap.size ∧ k ≠ W.heap.size ∧ (S' k ∨ Wb.heap.size ≤ k)) → Upd S' Wb wr →
          CallV Try.prog (.func yf ya yc) #[.int .i64 x] wr fun v W3 => ∃ b, v = .bool b ∧ ∃ (s3 : σ) (S3 : Nat → Prop), Rep s3 S3 W3 ∧ Blk W3 W.heap.size #[.func yf ya yc] 64 ∧ (∀ k, S3 k → k < W3.heap.size ∧ k ≠ W.heap.size ∧ (S' k ∨ Wb.heap.size ≤ k)) ∧ Upd S' Wb W3 ∧
            (b = true → goF step s1 (List.replicate (j + 1) x) = (s3, true)) ∧ (b = false → (stepNI step s1 (x, (m : Int))).2 = some .ret ∧ (stepNI step s1 (x, (m : Int))).1 = s3) := by
        intro j s2 S2 wr hj q1 q2 q3 q4 q5
        obtain ⟨suf', hL⟩ := hsl j hj
        have hz5 := q5.size
        have hgo2 : goF step s (expand pre ++ List.replicate j x) = (s2, true) := by rw [goF_append, hgo1, if_pos rfl]; exact q1
        refine (hyield _ x suf' s2 S2 wr hL hgo2 q2 ((hWWb.trans q5 hSin).mono fun _ _ h => .inl h) (fun k hk => ⟨(q4 k hk).1, (q4 k hk).2.2.elim (hSin k) fun h => .inr (by omega)⟩)).mono ?_
        rintro v W3 ⟨S3, rfl, r1, r2, r3⟩
        refine ⟨_, rfl, _, S3, r1, q3.upd r2 fun hk => (q4 _ hk).2.1 rfl, fun k hk => ⟨(r3 k hk).1, ?_, ?_⟩, q5.trans r2 fun k hk => (q4 k hk).2.2, fun hb => ?_, fun hb => ?_⟩
        · rcases (r3 k hk).2 with h | h
          · exact (q4 k h).2.1
          · omega
        · rcases (r3 k hk).2 with h | h
          · exact (q4 k h).2.2
          · exact .inr (by omega)
        · rw [rep_succ, goF_append, q1, if_pos rfl]
          simp only [goF, hb, if_true]
        · obtain ⟨d, hd⟩ : ∃ d, m = j + (d + 1) := ⟨m - j - 1, by omega⟩
          have e1 : goF step s1 (List.replicate m x) = ((step s2 x).1, false) := by
            rw [hd, ← List.replicate_append_replicate, goF_append, q1, if_pos rfl, List.replicate_succ]
            simp only [goF, hb, Bool.false_eq_true, if_false]
          simp only [stepNI, Int.toNat_natCast, e1, Bool.false_eq_true, if_false, and_self]
      replace hcall := Lib.hid hcall
      have hfinN : ∀ s2, goF step s1 (List.replicate m x) = (s2, true) → (stepNI step s1 (x, (m : Int))).2 = none ∧ (stepNI step s1 (x, (m : Int))).1 = s2 := fun s2 q1 => by
        simp only [stepNI, Int.toNat_natCast, q1, if_true, and_self]
      replace hfinN := Lib.hid hfinN
      clear hyield hstab hown hx hsl hgo1 hub hrec g1 g2 g3 g4 hS1 hSlb hSin hWW1 hWWb hDw
      gi_wp2
      gi_loopw [10] (fun i wr => ∃ (j : Nat) (s2 : σ) (S2 : Nat → Prop), i = .int .i64 j ∧ j ≤ m ∧ goF step s1 (List.replicate j x) = (s2, true) ∧ Rep s2 S2 wr ∧ Blk wr W.heap.size #[.func yf ya yc] 64 ∧ (∀ k, S2 k → k < wr.heap.size ∧ k ≠ W.heap.size ∧ (S' k ∨ Wb.heap.size ≤ k)) ∧ Upd S' Wb wr) (fun i _ => m - (intOf i).toNat)
      case atStart => exact h0
      case round =>
        clear h0
        obtain ⟨j, s2, S2, rfl, hj, q1, q2, q3, q4, q5⟩ := hrel
        have hw5 : IntKind.i64.wrap ((j : Int) + 1) = (j : Int) + 1 := Go.IntWalk.i64_in _ ⟨by omega, by omega⟩
        have cy := q3.cell0
        by_cases hlt : j < m
        · have k2 := Lib.hid (hcall.out j s2 S2 wr hlt q1 q2 q3 q4 q5)
          clear q1 q2 q3 q4 q5
          gi_wp2_with (first | refine (⟨trivial, rfl, ?_⟩ : Fence.wide.fn _ ∧ Fence.wide.depth = none ∧ _) | ((with_reducible refine listV1 k2.out ?_ ?_ ?_); rfl; rfl; rintro v W3 ⟨b, rfl, s3, S3, r1, r2, r3, r4, r5, r6⟩; (replace r1 := Lib.hid r1); (replace r2 := Lib.hid r2); (replace r3 := Lib.hid r3); (replace r4 := Lib.hid r4); (replace r5 := Lib.hid r5); (replace r6 := Lib.hid r6)) | refine (⟨trivial, ?_⟩ : Fence.wide.fn _ ∧ _))
          · obtain ⟨t1, t2⟩ := r6.out (nb1 (by assumption))
            exact ⟨t1, by rw [t2]; exact held.out s3 S3 W3 r1.out r2.out r3.out r4.out⟩
          · exact ⟨⟨j + 1, s3, S3, by go_num, by omega, r5.out (nb0 (by assumption)), r1.out, r2.out, r3.out, r4.out⟩, by simp [intOf]; omega⟩
        · obtain rfl : j = m := by omega
          obtain ⟨t1, t2⟩ := hfinN.out s2 q1
          replace t1 := Lib.hid t1
          replace t2 := Lib.hid t2
          have hd := Lib.hid (held.out s2 S2 wr q2 q3 q4 q5)
          clear q1 q2 q3 q4 q5
          gi_wp2_with (first | refine (⟨trivial, rfl, ?_⟩ : Fence.wide.fn _ ∧ Fence.wide.depth = none ∧ _) | refine (⟨trivial, ?_⟩ : Fence.wide.fn _ ∧ _))
          exact ⟨t1.out, by rw [t2.out]; exact hd.out⟩
    case hend =>
      rintro S1 W' ⟨S', g1, g2, g3, g4⟩ hOw hu1 hsz hS' hdef
      rw [eel] at g3 ⊢
      rw [goR_NI, hexp] at g3
      rw [goR_NI, hexp]
      have hfin : RunEnd Rep (goF step s ls).1 (fun _ => True) S (fun _ => False) W (.tuple #[]) (W'.putObj W2.heap.size (.deferred none)) := by
        refine ⟨S', hstab _ _ _ _ g3 (fun k hk => World.putObj_heap_other (hS' k (g1 k hk).1).2.1) (by simp), trivial, ?_, fun k hk => ?_⟩
        · refine ((hW2.mono fun _ _ h => h.elim).trans hu1 fun k hk => ?_).stepPut (.inr hz2) _
          rcases hk with (h | h) | h
          · exact .inl (.inl h)
          · exact .inr (by omega)
          · exact h.elim
        · obtain ⟨a1, a2, a3⟩ := hS' k (g1 k hk).1
          refine ⟨by simpa using a1, ?_⟩
          rcases a3 with (h | h) | h
          · exact .inl h
          · exact .inr (by omega)
          · exact .inr (by omega)
      have hlv : ∀ tmps, LeavesInM Fence.wide 0 Try.prog Try.f36 tmps (Ret (RunEnd Rep (goF step s ls).1 (fun _ => True) S (fun _ => False) W)) [{ target := .collected W2.heap.size, args := #[] }] .returning W' := fun tmps => leave_none (a := { tmps := tmps, defers := [{ target := .collected W2.heap.size, args := #[] }] }) rfl rfl hdef hfin
      clear hfin hexp hbag hseq k1 hs hyield hstab hown hlsl
      cases hb : (goF step s ls).2 with
      | true =>
        simp only [if_true]
        exact hlv _
      | false =>
        simp only [Bool.false_eq_true, if_false]
        exact wpIn_ret (hlv _)
end SkI
end Go.Proofs.Ytjlobcbjhnfjcaa

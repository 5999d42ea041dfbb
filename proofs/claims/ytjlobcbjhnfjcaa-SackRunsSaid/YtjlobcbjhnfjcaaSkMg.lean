/- SackMerges: two sacks and their lists, a clone: the calls one after the other. -/
import Derived.Test.YtjlobcbjhnfjcaaProg
import Derived.Test.YtjlobcbjhnfjcaaBase
import Derived.Test.YtjlobcbjhnfjcaaSkPy
namespace Go.Proofs.Ytjlobcbjhnfjcaa
open Go.RowKit Go.Shelf
attribute [local go_sem] Oper.semAt_some

theorem Filled.two {sb : Nat} {l : List Int} {room : Int} {F : Nat → Prop} {A : Option Addr} {cap : Nat} {w W : World} (h : Filled sb (sortL l) room F A cap w W) : Two sb (sortL l) (sortL l) room F A cap w W :=
  ⟨h.1, h.2.1, h.2.2.1, (sortL_rec l).1, h.2.2.2.1, h.2.2.2.2.1, h.2.2.2.2.2⟩
/-- Are just these gone through? -/
def HasC (sb : Nat) (A : Option Addr) (m cap : Nat) (K : World → Prop) (W : World) : Prop :=
  CallsIn Fence.wide 0 Try.prog 25 #[.pointer (some ⟨sb, 0, none⟩)] W fun e W2 => ∃ bv, e = .returned (.func (.func 36) #[] #[.pointer (some ⟨bv, 0, none⟩)]) ∧
    CallsIn Fence.wide 0 Try.prog 24 #[.func (.func 36) #[] #[.pointer (some ⟨bv, 0, none⟩)], .slice A m cap, .int .i64 200] W2 fun e W3 => e = .returned (.bool true) ∧ K W3
section
variable {sb ob cb bb : Nat} {L La Lb Lab : List Int} {room R : Int} {F G H K : Nat → Prop} {A A1 A2 A3 : Option Addr} {cap c1 c2 c3 : Nat} {w wa W W2 : World}
theorem hasC (h : SkI sb L room F W) (hs : Srt cmpI L) (hr : Reads1 W A (intsV L)) {Q : World → Prop} (hq : ∀ W2, Upd (fun _ => False) W W2 → Q W2) : HasC sb A L.length cap Q W := by
  have hl := h.len_le
  have hrF := fun W2 (u : Upd (fun _ => False) W W2) => hr.agree' (w' := W2) (u.agree fun j hj => ⟨hr.lt' j hj, id⟩)
  refine sackAllI.mono ?_
  rintro e W2 ⟨bv, rfl, g1, g2, g3⟩
  refine ⟨bv, rfl, (has_c (allSeqKI (h.upd g3 fun _ _ => id) hs g1) (hrF _ g3) (by omega)).mono ?_⟩
  rintro e W3 ⟨rfl, u3⟩
  exact ⟨rfl, hq _ (g3.trans' u3)⟩
/-- missing. -/
theorem missing_c {x : Int} (hr : Reads1 W A (intsV L)) (hl : L.length ≤ 1000) :
    CallsIn Fence.wide 0 Try.prog 27 #[.slice A L.length cap, .int .i64 x] W fun e W2 => e = .returned (.int .i64 (if cnt cmpI x L = 0 then 5 else 0)) ∧ W2 = W := by
  have k1 := Lib.hid ((many06_c (n := 0) (cap := cap) (x := x) hr (by omega)).mono (R' := fun e W2 => ∃ c : Nat, e = .returned (.int .i64 c) ∧ c = cnt cmpI x L ∧ W2 = W) (by rintro e W2 ⟨rfl, rfl⟩; exact ⟨_, rfl, rfl, rfl⟩))
  refine callsIn_any (n := 0) (callsIn_of_wp Try.func27 rfl trivial ?_)
  simp only [Try.ntmps27, List.size_toArray, List.length_cons, List.length_nil, Nat.reduceAdd, Nat.reduceSub, Array.replicate_succ, Array.replicate_zero, List.push_toArray, List.append_toArray, List.nil_append, List.cons_append]
  by_cases h0 : cnt cmpI x L = 0
  · rw [if_pos h0]
    rw [h0] at k1
    gi_wp2_with (first | refine (⟨trivial, rfl, ?_⟩ : Fence.wide.fn _ ∧ Fence.wide.depth = none ∧ _) | (gi_at_call 14; (with_reducible refine k1.out.mono ?_); rintro e W1 ⟨c, rfl, rfl, rfl⟩; (skip)) | refine (⟨trivial, ?_⟩ : Fence.wide.fn _ ∧ _))
    go_ret
    exact ⟨rfl, rfl⟩
  · rw [if_neg h0]
    gi_wp2_with (first | refine (⟨trivial, rfl, ?_⟩ : Fence.wide.fn _ ∧ Fence.wide.depth = none ∧ _) | (gi_at_call 14; (with_reducible refine k1.out.mono ?_); rintro e W1 ⟨c, rfl, hc, rfl⟩; (have hcb : ((c : Int) == 0) = false := beq_eq_false_iff_ne.2 (by omega))) | refine (⟨trivial, ?_⟩ : Fence.wide.fn _ ∧ _))
    go_ret
    exact ⟨rfl, rfl⟩
/-- Whatever of the clone is dropped. -/
theorem drop0_c {x : Int} (h : SkI cb L room H W) : CallsIn Fence.wide 0 Try.prog 19 #[.pointer (some ⟨cb, 0, none⟩), .int .i64 x] W fun e W2 => e = .returned (.int .i64 (if cnt cmpI x L = 0 then 5 else 0)) ∧ Upd H W W2 := by
  by_cases h0 : cnt cmpI x L = 0
  · rw [if_pos h0]
    exact (sackDropNoI h x h0).mono (by rintro e W2 ⟨rfl, g⟩; exact ⟨rfl, g.mono fun _ _ h => h.elim⟩)
  · rw [if_neg h0]
    have hx : 0 < cnt cmpI x L := by omega
    have hc := fun y => cnt_dropO hx y
    refine (sackDropI h x (ls' := dropO x L) (by rw [hc x, if_pos ((cmpI_eq x x).2 rfl)]) (fun y hy => by rw [hc y, if_neg hy]; rfl) ?_).mono ?_
    · have hi := idx_iff.2 hx
      have := idxL_le x L
      rw [dropO_in hi]; simp; omega
    · rintro e W2 ⟨rfl, F', g1, g2, g3⟩
      exact ⟨rfl, g3⟩

/-- Behind the third 'fill'. -/
def EndM (sb bb cb : Nat) (A1 : Option Addr) (m1 c1 : Nat) (A3 : Option Addr) (m c3 : Nat) (w W : World) : Prop :=
  HasC sb A3 m c3 (HasC bb A3 m c3 fun W2 => ∃ d : Int, CallsIn Fence.wide 0 Try.prog 19 #[.pointer (some ⟨cb, 0, none⟩), .int .i64 0] W2 fun e W3 => e = .returned (.int .i64 d) ∧
    CallsIn Fence.wide 0 Try.prog 27 #[.slice A1 m1 c1, .int .i64 0] W3 fun e W4 => e = .returned (.int .i64 d) ∧ HasC sb A3 m c3 (fun W5 => Upd (fun _ => False) w W5) W4) W
theorem endM (hs : SkI sb Lab R F wa) (hc : SkI cb La R H wa) (hr : Reads1 wa A1 (intsV La)) (hFH : ∀ j, F j → ¬ H j) (hAH : ∀ j, blkOf' A1 (intsV La).length j → ¬ H j) (hH : ∀ j, H j → w.heap.size ≤ j) (hu : Upd (fun _ => False) w wa)
    (hb : Two bb Lab Lab room K A3 c3 wa W) : EndM sb bb cb A1 La.length c1 A3 Lab.length c3 w W := by
  have hl := hc.len_le
  have hs1 := hs.upd hb.base fun _ _ => id
  have hc1 := hc.upd hb.base fun _ _ => id
  have hr1 : Reads1 W A1 (intsV La) := hr.agree' (w' := W) (hb.base.agree fun j hj => ⟨hr.lt' j hj, id⟩)
  have hu1 := hu.trans' hb.base
  refine hasC hs1 hb.srt hb.list fun W2 u2 => ?_
  have hb2 := hb.upd u2
  refine hasC hb2.sack hb2.srt hb2.list fun W3 u3 => ?_
  have u4 := u2.trans' u3
  have hb3 := hb.upd u4
  have hs3 := hs1.upd u4 fun _ _ => id
  have hc3 := hc1.upd u4 fun _ _ => id
  have hr3 : Reads1 W3 A1 (intsV La) := hr1.agree' (w' := W3) (u4.agree fun j hj => ⟨hr1.lt' j hj, id⟩)
  refine ⟨if cnt cmpI 0 La = 0 then 5 else 0, (drop0_c hc3).mono ?_⟩
  rintro e W4 ⟨rfl, u5⟩
  have hr4 : Reads1 W4 A1 (intsV La) := hr3.agree' (w' := W4) (u5.agree fun j hj => ⟨hr3.lt' j hj, hAH j hj⟩)
  refine ⟨rfl, (missing_c hr4 (by omega)).mono ?_⟩
  rintro e W5 ⟨rfl, rfl⟩
  have hs4 := hs3.upd u5 hFH
  have hl3 : Reads1 W5 A3 (intsV Lab) := hb3.list.agree (u5.agree fun j hj => ⟨(hb3.own j hj).2.1, fun h => by have := (hb3.own j hj).1; have := hc.lt j h; omega⟩)
  exact ⟨rfl, hasC hs4 hb.srt hl3 fun W6 u6 => ((hu1.trans' u4).trans u5 fun j hj => .inr (hH j hj)).trans' u6⟩
/-- From the clone on. -/
def FromM (a b : List Int) (sb ob : Nat) (R : Int) (A1 : Option Addr) (c1 : Nat) (A2 : Option Addr) (c2 : Nat) (w W : World) : Prop :=
  CallsIn Fence.wide 0 Try.prog 26 #[.pointer (some ⟨sb, 0, none⟩)] W fun e W1 => ∃ cb, e = .returned (.pointer (some ⟨cb, 0, none⟩)) ∧
    CallsIn Fence.wide 0 Try.prog 20 #[.pointer (some ⟨sb, 0, none⟩), .pointer (some ⟨ob, 0, none⟩)] W1 fun e W2 => e = .returned (.int .i64 (if R < (a.length : Int) + b.length then 3 else 0)) ∧
      HasC ob A2 b.length c2 (HasC cb A1 a.length c1 fun W3 => CallsIn Fence.wide 0 Try.prog 22 #[.pointer (some ⟨cb, 0, none⟩)] W3 fun e W4 => e = .returned (.int .i64 (R - a.length)) ∧ Upd (fun _ => False) w W4 ∧
        if R < (a.length : Int) + b.length then HasC sb A1 a.length c1 (fun W5 => Upd (fun _ => False) w W5) W4 else
          ∀ W5, Upd (fun _ => False) W4 W5 → ∀ (A : Option Addr) (cap : Nat), Reads1 W5 A (intsV (b ++ a)) → CallsIn Fence.wide 0 Try.prog 8 #[.slice A (b.length + a.length) cap, .int .i64 120] W5 fun e W6 => ∃ bb A3 c3, e = .returned (.tuple #[.pointer (some ⟨bb, 0, none⟩), .slice A3 (b.length + a.length) c3, .bool true]) ∧
            EndM sb bb cb A1 a.length c1 A3 (b.length + a.length) c3 w W6) W2
theorem fromM {a b : List Int} (hs : Two sb (sortL a) (sortL a) R F A1 c1 w wa) (ho : Two ob (sortL b) (sortL b) 60 G A2 c2 wa W) (ha : a.length ≤ 60) (hb : b.length ≤ 60) : FromM a b sb ob R A1 c1 A2 c2 w W := by
  have ea := (sortL_rec a).2.1
  have eb := (sortL_rec b).2.1
  have hz := hs.base.size
  have hz2 := ho.base.size
  have hs1 := hs.upd ho.base
  refine (sackCloneI hs1.sack hs1.srt).mono ?_
  rintro e W1 ⟨cb, H, rfl, g1, g2, g3⟩
  have hs2 := hs1.upd g3
  have ho2 := ho.upd g3
  have hz3 := g3.size
  refine ⟨cb, rfl, ?_⟩
  have rm := hs.sack.len_le
  have hR : ∀ {W}, SkI cb (sortL a) R H W → CallsIn Fence.wide 0 Try.prog 22 #[.pointer (some ⟨cb, 0, none⟩)] W fun e W4 => e = .returned (.int .i64 (R - a.length)) ∧ Upd (fun _ => False) W W4 := fun h => by
    have := sackRoomI (n := 0) h; rwa [ea] at this
  by_cases hf : R < (a.length : Int) + b.length
  · rw [if_pos hf]
    refine (sackMergeFullI hs2.sack ho2.sack (by omega)).mono ?_
    rintro e W2 ⟨rfl, u1⟩
    have ho3 := ho2.upd u1
    refine ⟨rfl, ?_⟩
    rw [← eb, ← ea]
    refine hasC ho3.sack ho3.srt ho3.list fun W3 u2 => ?_
    have u3 := u1.trans' u2
    refine hasC (g1.upd u3 fun _ _ => id) hs.srt (hs2.upd u3).list fun W4 u4 => ?_
    have u5 := u3.trans' u4
    rw [ea]
    refine (hR (g1.upd u5 fun _ _ => id)).mono ?_
    rintro e W5 ⟨rfl, u6⟩
    have hs6 := hs2.upd (u5.trans' u6)
    refine ⟨rfl, hs6.base, ?_⟩
    rw [eb, if_pos hf, ← ea]
    exact hasC hs6.sack hs.srt hs6.list fun W7 u7 => hs6.base.trans' u7
  · rw [if_neg hf]
    refine (sackMergeI hs2.sack ho2.sack ho.srt (by omega)).mono ?_
    rintro e W2 ⟨rfl, F', m1, m2, m3⟩
    have hFlt := hs.sack.lt
    have nG : ∀ j, G j → ¬ F j := fun j hg hf => by have := ho.new j hg; have := hFlt j hf; omega
    have nH : ∀ j, H j → ¬ F j := fun j hg hf => by have := g2 j hg; have := hFlt j hf; omega
    have ho3 : SkI ob (sortL b) 60 G W2 := ho2.sack.upd m3 nG
    have hc3 : SkI cb (sortL a) R H W2 := g1.upd m3 nH
    have lb3 : Reads1 W2 A2 (intsV (sortL b)) := ho2.list.agree (m3.agree fun j hj => ⟨(ho2.own j hj).2.1, fun h => by have := (ho2.own j hj).1; have := hFlt j h; omega⟩)
    have la3 : Reads1 W2 A1 (intsV (sortL a)) := hs2.list.agree (m3.agree fun j hj => ⟨(hs2.own j hj).2.1, (hs2.own j hj).2.2⟩)
    have hu3 : Upd (fun _ => False) w W2 := hs2.base.trans m3 fun j hj => .inr (hs.new j hj)
    have hF' : ∀ j, F' j → ¬ H j := fun j hj hh => (m2 j hj).elim (nH j hh) (fun h => by have := g1.lt j hh; omega)
    have hA1 : ∀ j, blkOf A1 j → ¬ H j := fun j hj hh => by have := g2 j hh; have := (hs.own j hj).2.1; omega
    have hH : ∀ j, H j → w.heap.size ≤ j := fun j hj => by have := g2 j hj; omega
    refine ⟨rfl, ?_⟩
    rw [← eb, ← ea]
    have st3 : ∀ {W3}, Upd (fun _ => False) W2 W3 → Reads1 W3 A1 (intsV (sortL a)) := fun u => la3.agree' (u.agree fun j hj => ⟨la3.lt' j hj, id⟩)
    refine hasC ho3 ho.srt lb3 fun W3 u2 => ?_
    refine hasC (hc3.upd u2 fun _ _ => id) hs.srt (st3 u2) fun W4 u4 => ?_
    have u5 := u2.trans' u4
    rw [ea]
    refine (hR (hc3.upd u5 fun _ _ => id)).mono ?_
    rintro e W5 ⟨rfl, u6⟩
    have u7 := u5.trans' u6
    refine ⟨rfl, hu3.trans' u7, ?_⟩
    rw [eb, if_neg hf]
    intro W6 u8 A cap hr
    have u9 := u7.trans' u8
    have k1 := fill_c (n := 0) (cap := cap) (room := 120) hr (by simp; omega) (by omega)
    have el : (b ++ a).length = b.length + a.length := by simp
    rw [el] at k1
    refine k1.mono ?_
    rintro e W7 ⟨bb, K, A3, c3, rfl, hfi⟩
    refine ⟨bb, A3, c3, rfl, ?_⟩
    have hsA : SkI sb (sortL (b ++ a)) R F' W6 := (m1.upd u9 fun _ _ => id).same (fun y => by
      rw [cnt_append, (sortL_rec (b ++ a)).2.2, cnt_append, ← (sortL_rec b).2.2, ← (sortL_rec a).2.2]; congr 1; exact List.countP_reverse) (by
      rw [(sortL_rec (b ++ a)).2.1]; simp [ea, eb])
    have := endM (c1 := c1) (A1 := A1) hsA (hc3.upd u9 fun _ _ => id) (st3 u9) hF' (fun j hj => hA1 j hj.2) hH (hu3.trans' u9) hfi.two
    rwa [ea, (sortL_rec (b ++ a)).2.1, el] at this
theorem Two.from (h : Two sb L Lb R F A cap wa W) (hu : Upd (fun _ => False) w wa) : Two sb L Lb R F A cap w W :=
  have hz := hu.size
  ⟨h.sack, h.list, h.len, h.srt, fun j hj => Nat.le_trans hz (h.new j hj), fun j hj => ⟨Nat.le_trans hz (h.own j hj).1, (h.own j hj).2⟩, hu.trans' h.base⟩
/-- From the first 'fill' on. -/
def StartM (a b : List Int) (A : Option Addr) (ca : Nat) (B : Option Addr) (cb : Nat) (R : Int) (w W : World) : Prop :=
  CallsIn Fence.wide 0 Try.prog 8 #[.slice A a.length ca, .int .i64 R] W fun e W1 => ∃ sb A1 c1, e = .returned (.tuple #[.pointer (some ⟨sb, 0, none⟩), .slice A1 a.length c1, .bool true]) ∧
    CallsIn Fence.wide 0 Try.prog 8 #[.slice B b.length cb, .int .i64 60] W1 fun e W2 => ∃ ob A2 c2, e = .returned (.tuple #[.pointer (some ⟨ob, 0, none⟩), .slice A2 b.length c2, .bool true]) ∧ FromM a b sb ob R A1 c1 A2 c2 w W2
theorem startM {a b : List Int} {B : Option Addr} {ca cb : Nat} (hra : Reads1 W A (intsV a)) (hrb : Reads1 W B (intsV b)) (hu : Upd (fun _ => False) w W) (ha : a.length ≤ 60) (hb : b.length ≤ 60) (h1 : (a.length : Int) ≤ R) (h2 : R ≤ 1000) : StartM a b A ca B cb R w W := by
  refine (fill_c hra h1 h2).mono ?_
  rintro e W1 ⟨sb, F, A1, c1, rfl, f1⟩
  refine ⟨sb, A1, c1, rfl, ?_⟩
  have hrb1 : Reads1 W1 B (intsV b) := hrb.agree' (w' := W1) (f1.two.base.agree fun j hj => ⟨hrb.lt' j hj, id⟩)
  refine (fill_c hrb1 (by omega) (by omega)).mono ?_
  rintro e W2 ⟨ob, G, A2, c2, rfl, f2⟩
  exact ⟨ob, A2, c2, rfl, fromM (f1.two.from hu) f2.two ha hb⟩
end
end Go.Proofs.Ytjlobcbjhnfjcaa

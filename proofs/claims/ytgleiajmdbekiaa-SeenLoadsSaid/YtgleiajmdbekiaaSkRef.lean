/- The document's things in a list: Add, Many, Drop, Near. -/
import Derived.Test.YtgleiajmdbekiaaProg
import Derived.Test.YtgleiajmdbekiaaBase
import Derived.Test.YtgleiajmdbekiaaAppS
import Derived.Test.YtgleiajmdbekiaaFork
import Derived.Test.YtgleiajmdbekiaaSkP
import Derived.Test.YtgleiajmdbekiaaSkIC
namespace Go.Proofs.Ytgleiajmdbekiaa
open Go.RowKit Go.Shelf
attribute [local go_sem] Oper.semAt_some

def intsV (l : List Int) : List Value := l.map fun x => Value.int .i64 x
theorem intsV_len (l : List Int) : (intsV l).length = l.length := by simp [intsV]
theorem intsV_len1 (l : List Int) : (intsV l).length = l.length * 1 := by simp [intsV]
theorem intsV_get (l : List Int) (i : Nat) (h : i < l.length) : (intsV l)[i]? = some (.int .i64 l[i]) := by simp [intsV, h]
theorem ints_one (l : List Int) : ∀ u ∈ intsV l, u.oneCell' = true := by
  intro u hu
  simp only [intsV, List.mem_map] at hu
  obtain ⟨x, _, rfl⟩ := hu
  rfl
theorem blk_reads {w : World} {b : Nat} {v : Value} {t : TypeId} (h : Blk w b #[v] t) : Reads1 w (some ⟨b, 0, none⟩) [v] := fun i u hu => by
  cases i with
  | zero => cases hu; exact ⟨_, rfl, h.cell0⟩
  | succ i => simp at hu
theorem own_empty1 (w : World) (o : Obj) (e : TypeId) (size : Nat) : ((w.alloc o).alloc (.cells #[] e)).ownsRow (w.heap.size + 1) e size (.slice (some ⟨w.heap.size + 1, 0, none⟩) 0 0) 0 [] := by
  have h := own_emptyS (w.alloc o) e size
  rwa [World.size_alloc] at h
theorem cmpI_eq (x y : Int) : cmpI x y = 0 ↔ x = y := ordrI.eq x y
def upL (x : Int) (l : List Int) : Nat := (l.takeWhile fun y => decide (y ≤ x)).length
theorem upL_le (x : Int) (l : List Int) : upL x l ≤ l.length := List.Sublist.length_le (List.takeWhile_sublist _)
theorem upL_lt {x : Int} : ∀ {l : List Int} {i : Nat} (h : i < l.length), i < upL x l → l[i] ≤ x
  | y :: l, 0, h, hi => by
    simp only [upL, List.takeWhile_cons] at hi
    split at hi
    · rename_i h'; simpa using h'
    · simp at hi
  | y :: l, i + 1, h, hi => by
    simp only [upL, List.takeWhile_cons] at hi
    split at hi
    · exact upL_lt (l := l) (by simpa using h) (by simpa [upL] using hi)
    · simp at hi
theorem upL_at {x : Int} : ∀ {l : List Int} (h : upL x l < l.length), ¬ l[upL x l] ≤ x
  | y :: l, h => by
    by_cases hy : y ≤ x
    · have e : upL x (y :: l) = upL x l + 1 := by simp [upL, List.takeWhile_cons, hy]
      simp only [e] at h ⊢
      simpa using upL_at (l := l) (by simpa using h)
    · have e : upL x (y :: l) = 0 := by simp [upL, List.takeWhile_cons, hy]
      simp only [e]
      simpa using hy
/-- The document's: with one more. -/
def addL (x : Int) (l : List Int) : List Int := l.take (upL x l) ++ [x] ++ l.drop (upL x l)
theorem addL_len (x : Int) (l : List Int) : (addL x l).length = l.length + 1 := by
  have := upL_le x l
  simp [addL]; omega
theorem cnt_addL (x y : Int) (l : List Int) : cnt cmpI y (addL x l) = cnt cmpI y (x :: l) := by
  have e : cnt cmpI y l = cnt cmpI y (l.take (upL x l)) + cnt cmpI y (l.drop (upL x l)) := by rw [← cnt_append, List.take_append_drop]
  rw [addL, cnt_append, cnt_append, cnt_cons, cnt_cons, cnt_nil, e]; omega
theorem srt_iff (l : List Int) : Srt cmpI l ↔ l.Pairwise (· ≤ ·) := by
  unfold Srt
  constructor <;> intro h <;> refine h.imp fun {a b} h => ?_
  · have := ordrI.flip b a
    rcases Int.lt_or_le b a with h1 | h1
    · exact absurd (show cmpI b a < 0 by simp [cmpI, h1]) h
    · exact h1
  · intro h2
    simp only [cmpI] at h2
    split at h2
    · omega
    · split at h2 <;> omega
theorem srt_addL {x : Int} {l : List Int} (h : Srt cmpI l) : Srt cmpI (addL x l) := by
  rw [srt_iff] at h ⊢
  have hle := upL_le x l
  have ht : ∀ a ∈ l.take (upL x l), a ≤ x := fun a ha => by
    obtain ⟨i, hi, rfl⟩ := List.getElem_of_mem ha
    rw [List.getElem_take]
    exact upL_lt _ (by simp at hi; omega)
  have hd : ∀ b ∈ l.drop (upL x l), x ≤ b := fun b hb => by
    obtain ⟨i, hi, rfl⟩ := List.getElem_of_mem hb
    simp at hi
    have h1 := upL_at (x := x) (l := l) (by omega)
    rw [List.getElem_drop]
    rcases Nat.eq_zero_or_pos i with rfl | hp
    · simp only [Nat.add_zero]; omega
    · have := List.pairwise_iff_getElem.1 h (upL x l) (upL x l + i) (by omega) (by omega) (by omega)
      omega
  rw [addL, List.append_assoc]
  refine List.pairwise_append.2 ⟨h.sublist (List.take_sublist _ _), List.pairwise_append.2 ⟨List.pairwise_singleton _ _, h.sublist (List.drop_sublist _ _), fun a ha b hb => ?_⟩, fun a ha b hb => ?_⟩
  · rw [List.mem_singleton.1 ha]; exact hd b hb
  · rcases List.mem_append.1 hb with hb | hb
    · rw [List.mem_singleton.1 hb]; exact ht a ha
    · have := ht a ha; have := hd b hb; omega

set_option maxRecDepth 100000 in
set_option maxHeartbeats 1000000 in
theorem many06_c {n : Nat} {l : List Int} {A : Option Addr} {cap : Nat} {x : Int} {w : World} (hr : Reads1 w A (intsV l)) (hl : l.length ≤ 100000) :
    CallsIn Fence.wide n Try.prog 49 #[.slice A l.length cap, .int .i64 x] w fun e w' => e = .returned (.int .i64 (cnt cmpI x l : Nat)) ∧ w' = w := by
  refine callsIn_any (n := 0) (callsIn_of_wp Try.func49 rfl trivial ?_)
  simp only [Try.ntmps49, List.size_toArray, List.length_cons, List.length_nil, Nat.reduceAdd, Nat.reduceSub, Array.replicate_succ, Array.replicate_zero, List.push_toArray, List.append_toArray, List.nil_append, List.cons_append]
  gi_wp2
  gi_loopw [9, 5] (fun i c wr => wr = w ∧ ∃ k : Nat, i = .int .i64 k ∧ k ≤ l.length ∧ c = .int .i64 (cnt cmpI x (l.take k) : Nat)) (fun i _ _ => l.length - (intOf i).toNat)
  case atStart => exact ⟨rfl, 0, rfl, Nat.zero_le _, rfl⟩
  case round =>
    obtain ⟨rfl, k, rfl, hk, rfl⟩ := hrel
    by_cases hlt : k < l.length
    · obtain ⟨ad, rfl, c0⟩ := hr k _ (intsV_get l k hlt)
      have hw1 : IntKind.i64.wrap ((k : Int) + 1) = (k : Int) + 1 := Go.IntWalk.i64_in _ ⟨by omega, by omega⟩
      have hcl := cnt_le (c := cmpI) x (l.take k)
      rw [List.length_take] at hcl
      have et : cnt cmpI x (l.take (k + 1)) = cnt cmpI x (l.take k) + if cmpI x l[k] = 0 then 1 else 0 := by
        rw [List.take_succ_eq_append_getElem hlt, cnt_append, cnt_cons, cnt_nil, Nat.zero_add]
      have hw2 : IntKind.i64.wrap ((cnt cmpI x (l.take k) : Int) + 1) = (cnt cmpI x (l.take k) : Int) + 1 := Go.IntWalk.i64_in _ ⟨by omega, by omega⟩
      clear hr
      generalize cnt cmpI x (l.take k) = m at *
      generalize l[k] = y at *
      by_cases he : y = x
      · rw [if_pos ((cmpI_eq _ _).2 he.symm)] at et
        replace et := Lib.hid et
        gi_wp2_with (first | refine (⟨trivial, rfl, ?_⟩ : Fence.wide.fn _ ∧ Fence.wide.depth = none ∧ _) | refine (⟨trivial, ?_⟩ : Fence.wide.fn _ ∧ _))
        exact ⟨⟨by trivial, k + 1, by go_num, by omega, by rw [et.out]; first | rfl | (push_cast; go_num)⟩, by simp [intOf]; omega⟩
      · rw [if_neg fun h => he ((cmpI_eq _ _).1 h).symm] at et
        replace et := Lib.hid et
        have hb : (y == x) = false := by simpa using he
        gi_wp2_with (first | refine (⟨trivial, rfl, ?_⟩ : Fence.wide.fn _ ∧ Fence.wide.depth = none ∧ _) | refine (⟨trivial, ?_⟩ : Fence.wide.fn _ ∧ _))
        exact ⟨⟨by trivial, k + 1, by go_num, by omega, by rw [et.out]; first | rfl | (push_cast; go_num)⟩, by simp [intOf]; omega⟩
    · obtain rfl : k = l.length := by omega
      rw [List.take_length]
      clear hr
      obtain ⟨m, hm⟩ : ∃ m, cnt cmpI x l = m := ⟨_, rfl⟩
      rw [hm]
      replace hm := Lib.hid hm
      gi_wp2_with (first | refine (⟨trivial, rfl, ?_⟩ : Fence.wide.fn _ ∧ Fence.wide.depth = none ∧ _) | refine (⟨trivial, ?_⟩ : Fence.wide.fn _ ∧ _))
      go_ret
      rw [hm.out]
      exact ⟨rfl, rfl⟩

end Go.Proofs.Ytgleiajmdbekiaa

/- silo: acts; Few; awake. -/
import Derived.Test.YtadeechoknpjhaaProg
import Derived.Test.YtadeechoknpjhaaBase
import Derived.Test.YtadeechoknpjhaaSlS
set_option linter.unusedSimpArgs false
set_option linter.unusedVariables false
namespace Go.Proofs.Ytadeechoknpjhaa
open Go.RowKit Go.Shelf
attribute [local go_sem] Oper.semAt_some

/-- An act: its kind; its epoch and its emission. -/
abbrev Act20 := Int × VCE
def encA (a : Act20) : List Value := .int .i64 a.1 :: cellsE a.2
abbrev flatA (l : List Act20) : List Value := l.flatMap encA
theorem encA_len (a : Act20) : (encA a).length = 17 := rfl
theorem flatA_len (l : List Act20) : (flatA l).length = l.length * 17 := flatMap_len encA_len l
structure AtA (W : World) (b o : Nat) (a : Act20) : Prop where
  c0 : W.cell? ⟨b, o, none⟩ = some (.int .i64 a.1)
  c1 : W.cell? ⟨b, o + 1, none⟩ = some (.int .i64 (a.2).ep)
  c2 : W.cell? ⟨b, o + 2, none⟩ = some (.string (a.2).key)
  c3 : W.cell? ⟨b, o + 3, none⟩ = some (.string (a.2).pol)
  c4 : W.cell? ⟨b, o + 4, none⟩ = some (.int .i64 (a.2).kd)
  c5 : W.cell? ⟨b, o + 5, none⟩ = some (.int .i64 (a.2).st)
  c6 : W.cell? ⟨b, o + 6, none⟩ = some (.int .i64 (a.2).rev)
  c7 : W.cell? ⟨b, o + 7, none⟩ = some (.bool (a.2).fin)
  c8 : W.cell? ⟨b, o + 8, none⟩ = some (.int .i64 (a.2).rk)
  c9 : W.cell? ⟨b, o + 9, none⟩ = some (.int .i64 (a.2).cnt)
  c10 : W.cell? ⟨b, o + 10, none⟩ = some (.int .i64 (a.2).sum)
  c11 : W.cell? ⟨b, o + 11, none⟩ = some (.int .i64 (a.2).mn)
  c12 : W.cell? ⟨b, o + 12, none⟩ = some (.int .i64 (a.2).mx)
  c13 : W.cell? ⟨b, o + 13, none⟩ = some (.int .i64 (a.2).q0)
  c14 : W.cell? ⟨b, o + 14, none⟩ = some (.int .i64 (a.2).q1)
  c15 : W.cell? ⟨b, o + 15, none⟩ = some (.int .i64 (a.2).q2)
  c16 : W.cell? ⟨b, o + 16, none⟩ = some (.bool (a.2).over)
theorem atA_at {W : World} {A : Option Addr} {l : List Act20} (h : Reads1 W A (flatA l)) {k : Nat} (hk : k < l.length) : ∃ g o, A = some ⟨g, o, none⟩ ∧ AtA W g (o + k * 17) l[k] := by
  obtain ⟨g, o, rfl, hc⟩ := reads_at h (by rw [flatA_len]; omega)
  have e : ∀ j u, j < 17 → (encA l[k])[j]? = some u → W.cell? ⟨g, o + k * 17 + j, none⟩ = some u := fun j u hj hu => by
    have := hc (k * 17 + j) u (by rw [flatMap_at encA_len l k hk j hj]; exact hu)
    rwa [← Nat.add_assoc] at this
  exact ⟨g, o, rfl, ⟨e 0 _ (by omega) rfl, e (0 + 1) _ (by omega) rfl, e (1 + 1) _ (by omega) rfl, e (2 + 1) _ (by omega) rfl, e (3 + 1) _ (by omega) rfl, e (4 + 1) _ (by omega) rfl, e (5 + 1) _ (by omega) rfl, e (6 + 1) _ (by omega) rfl, e (7 + 1) _ (by omega) rfl, e (8 + 1) _ (by omega) rfl, e (9 + 1) _ (by omega) rfl, e (10 + 1) _ (by omega) rfl, e (11 + 1) _ (by omega) rfl, e (12 + 1) _ (by omega) rfl, e (13 + 1) _ (by omega) rfl, e (14 + 1) _ (by omega) rfl, e (15 + 1) _ (by omega) rfl⟩⟩
/-- Few's answer. -/
def FewR (acts : List Act20) (W : World) (e : Ending) (W2 : World) : Prop := ∃ b, e = .returned (.bool b) ∧ (b = true → acts.length ≤ 100 ∧ ∀ a ∈ acts, a.2.key.size ≤ 300 ∧ a.2.pol.size ≤ 300) ∧ Upd (fun _ => False) W W2
set_option maxRecDepth 100000 in
set_option maxHeartbeats 4000000 in
theorem few20_c {n : Nat} {acts : List Act20} {A : Option Addr} {cap : Nat} {W : World} (hr : Reads1 W A (flatA acts)) (hl : acts.length ≤ maxLen) : CallsIn Fence.wide n Try.prog 10 #[.slice A acts.length cap] W (FewR acts W) := by
  unfold maxLen at hl
  refine callsIn_any (n := 0) (callsIn_of_wp Try.func10 rfl trivial ?_)
  simp only [Try.ntmps10, List.size_toArray, List.length_cons, List.length_nil, Nat.reduceAdd, Nat.reduceSub, Array.replicate_succ, Array.replicate_zero, List.push_toArray, List.append_toArray, List.nil_append, List.cons_append]
  gi_wp2
  gi_loopw [7] (fun i wr => ∃ k : Nat, i = .int .i64 k ∧ k ≤ acts.length ∧ Hid (∀ i (h : i < acts.length), i < k → acts[i].2.key.size ≤ 300 ∧ acts[i].2.pol.size ≤ 300) ∧ Upd (fun _ => False) W wr) (fun i _ => acts.length - (intOf i).toNat)
  case atStart => exact ⟨0, rfl, Nat.zero_le _, Lib.hid fun i h hi => by omega, Upd.refl _ _⟩
  case round =>
    obtain ⟨k, rfl, hk, hT, hu⟩ := hrel
    by_cases hlt : k < acts.length
    · obtain ⟨g, o, rfl, hat⟩ := atA_at (hr.agree' (w' := wr) (hu.agree fun j hj => ⟨hr.lt' j hj, id⟩)) hlt
      have hw5 : IntKind.i64.wrap ((k : Int) + 1) = (k : Int) + 1 := Go.IntWalk.i64_in _ ⟨by omega, by omega⟩
      have hsk : acts[k].2.key.size ≤ 300 → acts[k].2.pol.size ≤ 300 → ∀ i (h : i < acts.length), i < k + 1 → acts[i].2.key.size ≤ 300 ∧ acts[i].2.pol.size ≤ 300 := fun h1 h2 i h hi => by
        by_cases e : i = k
        · subst e; exact ⟨h1, h2⟩
        · exact hT.out i h (by omega)
      generalize acts[k] = a at *
      obtain ⟨kd, v⟩ := a
      obtain ⟨c0, w0, w1, w2, w3, w4, w5, w6, w7, w8, w9, w10, w11, w12, w13, w14, w15⟩ := hat
      replace hsk := Lib.hid hsk
      clear hr
      by_cases h1 : v.key.size ≤ 300
      · by_cases h2 : v.pol.size ≤ 300
        · gi_wp2
          exact ⟨⟨k + 1, by go_num, by omega, Lib.hid (hsk.out h1 h2), hu.stepAlloc _⟩, by show acts.length - ((k : Int) + 1).toNat < acts.length - (k : Int).toNat; omega⟩
        · gi_wp2
          go_ret
          exact (⟨false, rfl, fun h => (by cases h), hu.stepAlloc _⟩ : FewR acts W _ _)
      · gi_wp2
        go_ret
        exact (⟨false, rfl, fun h => (by cases h), hu.stepAlloc _⟩ : FewR acts W _ _)
    · obtain rfl : k = acts.length := by omega
      clear hr
      gi_wp2
      go_ret
      refine (⟨_, rfl, fun h => ⟨?_, fun a ha => by obtain ⟨i, hi, rfl⟩ := List.getElem_of_mem ha; exact hT.out i hi hi⟩, hu⟩ : FewR acts W _ _)
      have := of_decide_eq_true h
      omega
end Go.Proofs.Ytadeechoknpjhaa

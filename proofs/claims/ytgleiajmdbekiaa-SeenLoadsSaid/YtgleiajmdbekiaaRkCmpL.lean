/- strings.Compare as an order of keys. -/
import Derived.Test.YtgleiajmdbekiaaProg
import Derived.Test.YtgleiajmdbekiaaBase
import Derived.Test.YtgleiajmdbekiaaRkCmp
import Derived.Shelf.Small.Strs
namespace Go.Proofs.Ytgleiajmdbekiaa
open Go.RowKit Go.Shelf

theorem cmpB_eq : ∀ a b : List UInt8, Lib.compareBytes a b = if Op.bytesLess a b then -1 else if Op.bytesLess b a then 1 else 0
  | [], [] => rfl
  | [], _ :: _ => rfl
  | _ :: _, [] => rfl
  | a :: x, b :: y => by
    simp only [Lib.compareBytes, Op.bytesLess]
    by_cases h1 : a < b
    · simp [h1]
    · by_cases h2 : b < a
      · have h3 : ¬ a = b := by rintro rfl; exact h1 h2
        have h4 : ¬ b = a := fun e => h3 e.symm
        simp [h1, h2, h3]
      · have h3 : a = b := by
          rw [UInt8.lt_iff_toNat_lt] at h1 h2
          exact UInt8.toNat_inj.1 (by omega)
        subst h3
        rw [cmpB_eq x y]
        simp [h1]
def renSC : Ren := ⟨fun f => if f = 106 then 21 else if f = 213 then 40 else 62, fun t => if t = 3 then 3 else 9, fun g => g⟩
set_option maxRecDepth 100000 in
theorem laysSC : Lays.n106 Try.prog renSC where
  mixed := by kernel_rfl
  f106 := by kernel_rfl
  f213 := by kernel_rfl
  f265 := by kernel_rfl
  t3 := Try.underlying3
  a3 := fun _ => rfl
  z3 := fun _ => rfl
  v3 := fun _ => rfl
  t9 := Try.underlying9
  a9 := fun _ => rfl
  z9 := fun _ => rfl
  v9 := fun _ => rfl
theorem cmpV_strings : CmpV Try.prog (fun k : ByteArray => Value.string k) cmpS (.func 21) #[] #[] := by
  refine ⟨ordrS, fun a b W => ?_⟩
  refine CallV.of_calls (n := 0) (enters_of Try.func21 (by kernel_rfl) rfl) ?_
  refine callsIn_wide.2 ((Any.strings_Compare laysSC a b W).mono ?_)
  rintro e W2 ⟨rfl, rfl⟩
  refine ⟨_, rfl, ?_, Upd.refl _ _⟩
  rw [cmpB_eq, cmpS, ← ByteArray.toList_eq, ← ByteArray.toList_eq]
end Go.Proofs.Ytgleiajmdbekiaa

/- strings.Builder by the shelf. -/
import Derived.Shelf.Strings.BuilderK
import Derived.Test.YtkjkpmeommfdgaaProg
import Derived.Test.YtkjkpmeommfdgaaBase
import Derived.Test.YtkjkpmeommfdgaaPmB
set_option linter.unusedSimpArgs false
set_option linter.unusedVariables false
namespace Go.Proofs
open Go.Shelf
def Try.lays167_ren : Go.Shelf.Ren := ⟨fun | 167 => 94 | n => Try.lays105_ren.f n, Try.lays105_ren.t, Try.lays105_ren.g⟩
theorem Try.lays167 : Go.Proofs.Lays.n167 Try.prog Try.lays167_ren := {
  mixed := by kernel_rfl
  f167 := Try.func94.trans (congrArg some (by kernel_rfl))
  f240 := Try.func116.trans (congrArg some (by kernel_rfl))
  f276 := Try.func128.trans (congrArg some (by kernel_rfl))
  t0 := Try.underlying0
  a0 := Try.isAgg0
  z0 := Try.sizeOf0
  v0 := Try.zeroValue0
  t4 := Try.underlying4
  a4 := Try.isAgg4
  z4 := Try.sizeOf4
  v4 := Try.zeroValue4
  t5 := Try.underlying5
  a5 := Try.isAgg5
  z5 := Try.sizeOf5
  v5 := Try.zeroValue5
  t9 := Try.underlying9
  a9 := Try.isAgg9
  z9 := Try.sizeOf9
  v9 := Try.zeroValue9
  t20 := Try.underlying20
  a20 := Try.isAgg20
  z20 := Try.sizeOf20
  v20 := Try.zeroValue20
  t37 := Try.underlying103
  a37 := Try.isAgg103
  z37 := Try.sizeOf103
  v37 := Try.zeroValue103
  t70 := Try.underlying102
  a70 := Try.isAgg102
  z70 := Try.sizeOf102
  v70 := Try.zeroValue102
  t72 := Try.underlying105
  a72 := Try.isAgg105
  z72 := Try.sizeOf105
  v72 := Try.zeroValue105
  t75 := Try.underlying107
  a75 := Try.isAgg107
  z75 := Try.sizeOf107
  v75 := Try.zeroValue107
  t164 := Try.underlying138
  a164 := Try.isAgg138
  z164 := Try.sizeOf138
  v164 := Try.zeroValue138 }
theorem Try.Builder_Extra_167 : Builder.Extra Try.prog Try.lays167_ren := {
  sizeBuilder := by kernel_rfl
  liesBuilder := by kernel_rfl
  t5 := Try.underlying5
  a5 := Try.isAgg5
  z5 := Try.sizeOf5
  v5 := Try.zeroValue5
  infoByte := by kernel_rfl
  cellsByte := by kernel_rfl
  sizeByte := by kernel_rfl
  neB5 := by decide }
end Go.Proofs
namespace Go.Proofs.Ytkjkpmeommfdgaa
open Go.RowKit Go.Shelf
attribute [local go_sem] Oper.semAt_some

/-- A text is being written in block b. -/
abbrev BldI (b : Nat) (l : List UInt8) (W : World) : Prop := Lib.IsBuilderF 105 5 b b (Lib.byteCells l) W
theorem byteCells_append (l m : List UInt8) : Lib.byteCells (l ++ m) = Lib.byteCells l ++ Lib.byteCells m := by simp [Lib.byteCells]
section
variable {b : Nat} {l : List UInt8} {W : World}
theorem bld_new : BldI W.heap.size [] (W.alloc (.cells #[.pointer none, .slice none 0 0] 105)) :=
  Lib.IsBuilderF.of (.inl ⟨Nat.le_refl _, _, World.alloc_heap_new _ _, World.ownsRow_nil _ _ _ 1, by simp [Value.ownBlock]⟩)
theorem bld_str {n : Nat} (h : BldI b l W) (hl : l.length ≤ 100000000) (hb : b ≤ W.heap.size) (s : ByteArray) (hs : s.size ≤ 100000000) : CallsIn Fence.wide n Try.prog 92 #[.pointer (some ⟨b, 0, none⟩), .string s] W fun e W2 => e = .returned (.tuple #[.int .i64 s.size, .nilIface]) ∧ BldI b (l ++ s.data.toList) W2 ∧ Below b W W2 := by
  refine callsIn_wide.2 ((Any.Builder_WriteString_f { Try.lays105 with } Try.Builder_Extra_105 b b _ s W h (by simp [Lib.byteCells]; omega) hb).mono ?_)
  rintro e W2 ⟨rfl, h2, h3⟩
  exact ⟨rfl, by rw [BldI, byteCells_append]; exact .inr h2, h3⟩
theorem bld_byte {n : Nat} (h : BldI b l W) (hl : l.length ≤ 100000000) (hb : b ≤ W.heap.size) : CallsIn Fence.wide n Try.prog 94 #[.pointer (some ⟨b, 0, none⟩), .int .u8 10] W fun e W2 => e = .returned .nilIface ∧ BldI b (l ++ [10]) W2 ∧ Below b W W2 := by
  refine callsIn_wide.2 ((Any.Builder_WriteByte_k Try.lays167 Try.Builder_Extra_167 b b _ 10 W h (by simp [Lib.byteCells]; omega) hb).mono ?_)
  rintro e W2 ⟨rfl, h2, h3, _⟩
  exact ⟨rfl, by rw [BldI, byteCells_append]; exact .inr h2, h3⟩
theorem bld_end {n : Nat} (h : BldI b l W) (hb : b ≤ W.heap.size) : CallsIn Fence.wide n Try.prog 95 #[.pointer (some ⟨b, 0, none⟩)] W fun e W2 => e = .returned (.string ⟨l.toArray⟩) ∧ Below b W W2 := by
  refine callsIn_wide.2 ((Any.Builder_String_any_f { Try.lays105 with } Try.Builder_Extra_105 b b l W h hb).mono ?_)
  rintro e W2 ⟨rfl, _, h3⟩
  exact ⟨rfl, h3⟩
end
/-- So many blanks. -/
def blankL (c : Nat) : List UInt8 := List.replicate c 32
theorem repeat_blank : ∀ c, Lib.repeatL [32] c = blankL c
  | 0 => rfl
  | c + 1 => by rw [Lib.repeatL, repeat_blank c]; rfl
theorem blanks_c {n : Nat} {c : Nat} {W : World} (hc : c ≤ 100000) : CallsIn Fence.wide n Try.prog 93 #[.string ⟨#[32]⟩, .int .i64 c] W fun e W2 => e = .returned (.string ⟨(blankL c).toArray⟩) ∧ Below W.heap.size W W2 := by
  refine callsIn_wide.2 ((Any.strings_Repeat Try.lays105 Try.Builder_Extra_105 ⟨#[32]⟩ c W (by omega) (by show 1 * c ≤ _; omega)).mono ?_)
  rintro e W2 ⟨rfl, hb⟩
  refine ⟨?_, hb⟩
  show Ending.returned (.string ⟨(Lib.repeatL [32] c).toArray⟩) = _
  rw [repeat_blank]
end Go.Proofs.Ytkjkpmeommfdgaa

/- rack's 'Get', 'Len', 'Height', 'Rank', 'At', instance int, bool. -/
import Derived.Test.YtaenkjeaadmgeaaProg
import Derived.Test.YtaenkjeaadmgeaaBase
import Derived.Test.YtaenkjeaadmgeaaTr
import Derived.Test.YtaenkjeaadmgeaaFork
import Derived.Test.YtaenkjeaadmgeaaRkIBC
namespace Go.Proofs.Ytaenkjeaadmgeaa
open Go.RowKit Go.Shelf
attribute [local go_sem] Oper.semAt_some


set_option maxHeartbeats 1000000 in
theorem rackLenIB {n : Nat} {c : KIB → KIB → Int} {cf : Fn} {ca cc : Array Value} {rb : Nat} {t : Tr KIB VIB} {l : List (KIB × VIB)} {w : World} (h : RackIB c cf ca cc rb t l w) : CallsIn Fence.wide n Try.prog 42 #[.pointer (some ⟨rb, 0, none⟩)] w fun e w' => e = .returned (.int .i64 l.length) ∧ w' = w := by
  have c1 := h.blk.cell 1
  have k1 := sizeIB (n := 0) h.lies.top
  rw [h.many] at k1
  clear h
  refine callsIn_any (n := 0) (callsIn_of_wp Try.func42 rfl trivial ?_)
  simp only [Try.ntmps42, List.size_toArray, List.length_cons, List.length_nil, Nat.reduceAdd, Nat.reduceSub, Array.replicate_succ, Array.replicate_zero, List.push_toArray, List.append_toArray, List.nil_append, List.cons_append]
  gi_wp2_with (first | refine (⟨trivial, rfl, ?_⟩ : Fence.wide.fn _ ∧ Fence.wide.depth = none ∧ _) | (gi_at_call 66; refine k1.mono ?_; rintro e w' ⟨rfl, rfl⟩))
  go_ret
  exact ⟨rfl, rfl⟩


theorem mk5IB : ∀ k v x y h n, (mkIB k v x y h n)[5]? = some (.int .i64 n) := fun _ _ _ _ _ _ => rfl



end Go.Proofs.Ytaenkjeaadmgeaa

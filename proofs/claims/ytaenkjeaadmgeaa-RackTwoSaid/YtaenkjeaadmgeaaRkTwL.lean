/- RackTwo: the walk. -/
import Derived.Test.YtaenkjeaadmgeaaProg
import Derived.Test.YtaenkjeaadmgeaaBase
import Derived.Test.YtaenkjeaadmgeaaRkTw
namespace Go.Proofs.Ytaenkjeaadmgeaa
open Go.RowKit Go.Shelf
attribute [local go_sem] Oper.semAt_some

/-- What All gives of the first one is gathered. -/
theorem T3.gath {w : World} {p q r : Nat} {la lb lc : List Ent} {F : Nat → Prop} {W0 : World} (h0 : T3 w p q r la lb lc F W0) (hl : la.length ≤ 100000) :
    CallsIn Fence.wide 0 Try.prog 11 #[.pointer (some ⟨p, 0, none⟩)] (W0.alloc (.cells #[.slice none 0 0] 27)) fun e W2 => ∃ bv, e = .returned (.func (.func 44) #[] #[.pointer (some ⟨bv, 0, none⟩)]) ∧
      CallV Try.prog (.func (.func 44) #[] #[.pointer (some ⟨bv, 0, none⟩)]) #[.func (.func 25) #[] #[.pointer (some ⟨W0.heap.size, 0, none⟩)]] W2 fun _ W3 =>
        T3 w p q r la lb lc F W3 ∧ ∃ A cap, Blk W3 W0.heap.size #[.slice A la.length cap] 27 ∧ Reads1 W3 A (flat la) := by
  have hnF : ¬ F W0.heap.size := fun h => by have := (h0.lt _ h).1; omega
  have hge := h0.base.size
  have hb := Blk.new W0 #[.slice none 0 0] 27
  have h1 := h0.upd (Upd.alloc (fun _ => False) W0 (.cells #[.slice none 0 0] 27)) fun _ h => h.elim
  clear h0
  generalize hbl : W0.heap.size = bl at *
  clear hbl
  generalize W0.alloc (.cells #[.slice none 0 0] 27) = W at *
  have hz := h1.base.size
  have hbW := hb.lt
  have h1k := h1
  obtain ⟨ta, tb, tc, m1, m2, m3, m4, m5, m6, m7, m8⟩ := h1
  refine rackAllSI.mono ?_
  rintro e W2 ⟨bv, rfl, g1, g2, g3⟩
  refine ⟨bv, rfl, ?_⟩
  have hT2 := h1k.upd g3 fun _ h => h.elim
  have hb' := hb.upd g3 id
  refine (gathT (base := w.heap.size) (allSeqSI (m1.upd g3 fun _ _ => id) g1) (Nat.le_refl _) (Agree.refl _ _) (Gath.new hb') (by have := g3.size; omega) ?_ hl).mono ?_
  · rintro k (rfl | hk)
    · rintro (e | e | e)
      · omega
      · exact hnF ((m7 _).2 (.inl (.inl e)))
      · exact hnF ((m7 _).2 (.inl (.inr e)))
    · simp [Value.ownBlock] at hk
  · rintro v W3 ⟨v', k1, k2, k3⟩
    obtain ⟨A, cap, rfl, r1, r2, r3⟩ := k1.shape
    have hM : ∀ j, (j = bl ∨ (Value.slice none 0 0).ownBlock = some j) → j = bl := by
      rintro j (h | h)
      · exact h
      · simp [Value.ownBlock] at h
    exact ⟨hT2.upd k2 fun j hj => by rw [hM j hj]; exact ⟨hnF, hge⟩, A, cap, k1.1, r1⟩

/-- The third one is as the second one. -/
theorem T3.fin {w : World} {p q r : Nat} {la ly : List Ent} {F : Nat → Prop} {W : World} {bl cap : Nat} {A : Option Addr} (h : T3 w p q r la ly ly F W) (hb : Blk W bl #[.slice A ly.length cap] 27) (hr : Reads1 W A (flat ly)) (hl : ly.length ≤ 100000) :
    CallsIn Fence.wide 0 Try.prog 11 #[.pointer (some ⟨r, 0, none⟩)] W fun e W2 => ∃ bv, e = .returned (.func (.func 44) #[] #[.pointer (some ⟨bv, 0, none⟩)]) ∧ W2.cell? ⟨bl, 0, none⟩ = some (.slice A ly.length cap) ∧
      CallsIn Fence.wide 0 Try.prog 14 #[.func (.func 44) #[] #[.pointer (some ⟨bv, 0, none⟩)], .slice A ly.length cap, .int .i64 200] W2 fun e W3 => e = .returned (.bool true) ∧ W3.cell? ⟨bl, 0, none⟩ = some (.slice A ly.length cap) ∧ Upd (fun _ => False) w W3 ∧
        CallsIn Fence.wide 0 Try.prog 13 #[.pointer (some ⟨r, 0, none⟩)] W3 (fun e W4 => e = .returned (.int .i64 ly.length) ∧ W4 = W3) ∧
        CallsIn Fence.wide 0 Try.prog 13 #[.pointer (some ⟨q, 0, none⟩)] W3 (fun e W4 => e = .returned (.int .i64 ly.length) ∧ W4 = W3) := by
  refine (h.rot.rot.goes (cap := cap) (most := 200) hr hl).mono ?_
  rintro e W2 ⟨bv, rfl, u1, k1⟩
  refine ⟨bv, rfl, (hb.upd u1 id).cell0, k1.mono ?_⟩
  rintro e W3 ⟨rfl, u2⟩
  have h3 := h.upd u2 fun _ h => h.elim
  exact ⟨rfl, (hb.upd u2 id).cell0, h3.base, h3.rot.rot.len, h3.rot.len⟩

theorem infoStr : (Try.prog.info? 9).map (fun i => (i.zero, i.size, i.bytes)) = some (some (.string ⟨#[]⟩), 1, 16) := by kernel_rfl
theorem str_one (l : List ByteArray) : ∀ u ∈ l.map Value.string, u.oneCell' = true := by
  intro u hu
  obtain ⟨x, _, rfl⟩ := List.mem_map.1 hu
  rfl

set_option maxRecDepth 100000 in
set_option maxHeartbeats 4000000 in
theorem rackTwo_law {n : Nat} {w : World} {A B : Option Addr} {capa capb : Nat} {a b : List ByteArray} (hra : Reads1 w A (a.map Value.string)) (hrb : Reads1 w B (b.map Value.string)) :
    CallsIn Fence.wide n Try.prog 5 #[.slice A a.length capa, .slice B b.length capb] w fun e w' => e = .returned (.bool true) ∧ Upd (fun _ => False) w w' := by
  refine callsIn_any (n := 0) (callsIn_of_wp Try.func5 rfl trivial ?_)
  simp only [Try.ntmps5, List.size_toArray, List.length_cons, List.length_nil, Nat.reduceAdd, Nat.reduceSub, Array.replicate_succ, Array.replicate_zero, List.push_toArray, List.append_toArray, List.nil_append, List.cons_append]
  have hrwa := Lib.hid fun W (h : Upd (fun _ => False) w W) => hra.agree' (w' := W) (h.agree fun j hj => ⟨hra.lt' j hj, id⟩)
  have hrwb := Lib.hid fun W (h : Upd (fun _ => False) w W) => hrb.agree' (w' := W) (h.agree fun j hj => ⟨hrb.lt' j hj, id⟩)
  clear hra hrb
  by_cases hlen : a.length ≤ 60 ∧ b.length ≤ 60
  · obtain ⟨hla, hlb⟩ := hlen
    have hg1 : ¬ (60 : Int) < a.length := by omega
    have hg2 : ¬ (60 : Int) < b.length := by omega
    gi_wp2_with (first | refine (⟨trivial, rfl, ?_⟩ : Fence.wide.fn _ ∧ Fence.wide.depth = none ∧ _) | (gi_at_call 8; (fail_if_success (have hq := ra)); refine new05.mono ?_; rintro e W1 ⟨rfl, ra, ua⟩; (replace ra := Lib.hid ra); (replace ua := Lib.hid ua)) | (gi_at_call 8; (fail_if_success (have hq := rb)); refine new05.mono ?_; rintro e W2 ⟨rfl, rb, ub⟩; (replace rb := Lib.hid rb); (replace ub := Lib.hid ub)) | (gi_at_call 8; refine new05.mono ?_; rintro e W3 ⟨rfl, rc, uc⟩; (replace rc := Lib.hid rc); (replace uc := Lib.hid uc)) | (gi_at_call 9; refine awake05.mono ?_; rintro e W4 ⟨rfl, uw⟩; (replace uw := Lib.hid uw); have u4 := Lib.hid (((ua.out.trans' ub.out).trans' uc.out).trans' uw.out)) | ((with_reducible refine appS (A := A) (m := a.length) (c := capa) (news := a.map Value.string) Try.underlying22 infoStr rfl (by omega) (by omega) (own_emptyS W4 _ 1) ?_ ?_ ?_ ?_ ?_ (hrwa.out _ (u4.out.stepAlloc _)) ?_ ?_); rfl; rfl; (focus simp); (focus simp); omega; exact str_one a; intro v5 W5 h5 g5 e5; (simp only [Nat.zero_add, List.nil_append] at h5); have u5 := Lib.hid ((u4.out.stepAlloc (.cells #[] 9)).trans g5 (fun j hj => .inr (by have := u4.out.size; simp [Value.ownBlock] at hj; omega))); have z5 := g5.size; (simp only [World.size_alloc] at z5); have o5 := (g5.mono (M' := fun j => W4.heap.size ≤ j) fun j _ hj => by simp [Value.ownBlock] at hj; omega); have o5 := Lib.hid ((Upd.alloc (fun j => W4.heap.size ≤ j) W4 (.cells #[] 9)).trans' o5); (replace h5 := Lib.hid h5); clear g5 e5) | ((with_reducible refine appS (A := B) (m := b.length) (c := capb) (news := b.map Value.string) Try.underlying22 infoStr rfl (by omega) (by omega) h5.out ?_ ?_ ?_ ?_ ?_ (hrwb.out _ u5.out) ?_ ?_); rfl; rfl; omega; (focus simp); omega; exact str_one b; intro v6 W6 h6 g6 e6; have o6 := Lib.hid (o5.out.trans' (g6.mono (M' := fun j => W4.heap.size ≤ j) fun j _ hj => own_ge h5.out j hj)); have hge6 := Lib.hid (own_ge h6); obtain ⟨AK, capK, rfl, hnK, hrK, _, hbK⟩ := own_readsS h6; (replace hrK := Lib.hid hrK); (replace hbK := Lib.hid hbK); clear h6 g6 e6) | refine (⟨trivial, ?_⟩ : Fence.wide.fn _ ∧ _))
    have l1 := ra.out.blk.lt
    have l2 := rb.out.blk.lt
    have l3 := rc.out.blk.lt
    have zw := uw.out.size
    have ra4 := ((ra.out.upd ub.out fun _ _ => id).upd uc.out fun _ _ => id).upd uw.out fun _ _ => id
    have rb4 := (rb.out.upd uc.out fun _ _ => id).upd uw.out fun _ _ => id
    have rc4 := rc.out.upd uw.out fun _ _ => id
    have hT4 : T3 w w.heap.size W1.heap.size W2.heap.size [] [] [] (fun j => j = w.heap.size ∨ j = W1.heap.size ∨ j = W2.heap.size) W4 := by
      refine ⟨.nil, .nil, .nil, ra4, rb4, rc4, ?_, ?_, ?_, fun j => by simp [Tr.has], u4.out⟩
      · rintro j (rfl | h)
        · exact ⟨Nat.le_refl _, fun h => h.elim (fun e => by omega) id, fun h => h.elim (fun e => by omega) id⟩
        · exact h.elim
      · rintro j (rfl | h)
        · exact ⟨by omega, fun h => h.elim (fun e => by omega) id⟩
        · exact h.elim
      · rintro j (rfl | h)
        · omega
        · exact h.elim
    have hT6 := hT4.upd o6.out fun j hj => ⟨by rintro (h | h | h) <;> omega, by omega⟩
    have h0 : Two1 w w.heap.size W1.heap.size W2.heap.size a.length (a ++ b) AK 0 (.slice none 0 0) W6 := by
      refine ⟨_, none, 0, by simpa [keysF] using hT6, rfl, Nat.le_refl _, fun i v hv => by simp [keysF, flat] at hv, fun j hj => by simp [blkOf', keysF, flat] at hj, by rw [List.map_append]; exact hrK.out, ?_⟩
      rintro j ⟨_, hj⟩ hF
      have := hge6.out j (hbK.out j hj)
      rcases hF with h | h | h <;> omega
    clear ra rb rc ua ub uc uw ra4 rb4 rc4 hT4 hT6 hrK hbK hge6 o5 o6 u4 u5 l1 l2 l3 zw h5 z5
    generalize W1.heap.size = q at *
    generalize W2.heap.size = r at *
    have hKl : (a ++ b).length = a.length + b.length := List.length_append
    obtain ⟨K, hK⟩ : ∃ K, K = a ++ b := ⟨_, rfl⟩
    rw [← hK] at h0 hKl
    replace hK := Lib.hid hK
    gi_loopw [8, 50] (fun v8 i wr => ∃ k : Nat, i = .int .i64 k ∧ k ≤ K.length ∧ (∀ x ∈ K.take k, x.size ≤ 100) ∧ Two1 w w.heap.size q r a.length K AK k v8 wr) (fun _ i _ => K.length - (intOf i).toNat)
    case atStart => exact ⟨0, rfl, Nat.zero_le _, by simp, h0⟩
    case round =>
      clear h0
      obtain ⟨k, rfl, hk, hsz, h⟩ := hrel
      by_cases hlt : k < K.length
      · have hcell : ∃ ad, AK = some ad ∧ wr.cell? (ad.add k) = some (.string K[k]) := by
          obtain ⟨F, A2, cap2, _, _, _, _, _, hr, _⟩ := h
          exact hr k (.string K[k]) (by simp [hlt])
        obtain ⟨ad, rfl, c1⟩ := hcell
        have hbase := Lib.hid h.base
        have hlt2 : (k : Int) < (a.length : Int) + b.length := by omega
        by_cases hbig : (100 : Int) < K[k].size
        · clear h hsz
          generalize K[k] = x at *
          gi_wp2_with (first | refine (⟨trivial, rfl, ?_⟩ : Fence.wide.fn _ ∧ Fence.wide.depth = none ∧ _) | refine (⟨trivial, ?_⟩ : Fence.wide.fn _ ∧ _))
          go_ret
          exact ⟨rfl, hbase.out⟩
        · have hr1 := h.round hlt (by omega) hsz
          have hsz2 : ∀ x ∈ K.take (k + 1), x.size ≤ 100 := by
            intro x hx
            rw [List.take_succ_eq_append_getElem hlt] at hx
            rcases List.mem_append.1 hx with hx | hx
            · exact hsz x hx
            · rw [List.mem_singleton.1 hx]; omega
          replace hsz2 := Lib.hid hsz2
          have hw5 : IntKind.i64.wrap ((k : Int) + 1) = (k : Int) + 1 := Go.IntWalk.i64_in _ ⟨by omega, by omega⟩
          clear h hsz
          generalize K[k] = x at *
          by_cases hka : k < a.length
          all_goals
            first | rw [if_pos hka] at hr1 | rw [if_neg hka] at hr1
            replace hr1 := Lib.hid hr1
            gi_wp2_with (first | refine (⟨trivial, rfl, ?_⟩ : Fence.wide.fn _ ∧ Fence.wide.depth = none ∧ _) | (gi_at_call 10; (with_reducible refine hr1.out.mono ?_); rintro e W2 ⟨⟨b1, rfl⟩, hr2⟩; (replace hr2 := Lib.hid hr2)) | (gi_at_call 10; (with_reducible refine hr2.out.mono ?_); rintro e W3 ⟨⟨b2, rfl⟩, hr3⟩; (replace hr3 := Lib.hid hr3)) | (gi_at_call 22; (with_reducible refine hr3.out.mono ?_); rintro e W4 ⟨v, rfl, hr4⟩; (replace hr4 := Lib.hid hr4)) | refine (⟨trivial, ?_⟩ : Fence.wide.fn _ ∧ _))
            exact ⟨⟨k + 1, by go_num, by omega, hsz2.out, hr4.out⟩, by simp [intOf]; omega⟩
      · have hkK : k = K.length := by omega
        subst hkK
        have hK' := hK.out
        obtain ⟨F, A2, cap2, hT, rfl, _, hr, _⟩ := h
        rw [show min K.length a.length = a.length by omega, List.take_length] at hT
        rw [List.take_length] at hr
        rw [show K.take a.length = a by rw [hK']; simp, show K.drop a.length = b by rw [hK']; simp, hK'] at hT
        rw [hK'] at hr
        clear hsz hK
        simp only [List.take_length]
        rw [hK']
        have hll : (keysF oneF (a ++ b) []).length ≤ 120 := by
          have := keysF_len oneF (a ++ b) (l := []) List.Pairwise.nil
          simp at this; omega
        have hlb2 : (keysF oneF b []).length ≤ 60 := by
          have := keysF_len oneF b (l := []) List.Pairwise.nil
          simp at this; omega
        have hleft := two_left a b
        obtain ⟨lx, hlx⟩ : ∃ lx, lx = keysF oneF a [] := ⟨_, rfl⟩
        obtain ⟨ly, hly⟩ : ∃ ly, ly = keysF oneF b [] := ⟨_, rfl⟩
        obtain ⟨lz, hlz⟩ : ∃ lz, lz = keysF oneF (a ++ b) [] := ⟨_, rfl⟩
        rw [← hlx, ← hly, ← hlz] at hT
        rw [← hlz] at hr hll
        rw [← hly] at hlb2
        rw [← hly, ← hlz] at hleft
        rw [← hlz]
        clear hlx hly hlz hK' hk hlt hKl
        have k1 := Lib.hid (hT.rot.rot.goes (cap := cap2) (most := 200) hr (by omega))
        have hTu := Lib.hid fun W (hu : Upd (fun _ => False) wr W) => hT.upd hu fun _ h => h.elim
        replace hleft := Lib.hid hleft
        clear hr hT
        gi_wp2_with (first | refine (⟨trivial, rfl, ?_⟩ : Fence.wide.fn _ ∧ Fence.wide.depth = none ∧ _) | (gi_at_call 11; (with_reducible refine k1.out.mono ?_); rintro e W2 ⟨bv, rfl, u2, k2⟩; (replace u2 := Lib.hid u2); (replace k2 := Lib.hid k2)) | (gi_at_call 14; (with_reducible refine k2.out.mono ?_); rintro e W3 ⟨rfl, u3⟩; (replace u3 := Lib.hid (hTu.out _ u3))) | refine (⟨trivial, ?_⟩ : Fence.wide.fn _ ∧ _))
        have h30 := u3.out
        clear hTu u2 k1 k2 u3
        gi_loopw [82] (fun i wr => ∃ (k : Nat) (F : Nat → Prop), i = .int .i64 k ∧ k ≤ a.length ∧ T3 w w.heap.size q r lx ly ((a.take k).foldl (stepD ly) lz) F wr) (fun i _ => a.length - (intOf i).toNat)
        case atStart => exact ⟨0, F, rfl, Nat.zero_le _, h30⟩
        case round =>
          clear h30
          obtain ⟨k, F2, rfl, hk, h⟩ := hrel
          by_cases hlt : k < a.length
          · obtain ⟨ad, rfl, c1⟩ := hrwa.out _ h.base k (.string a[k]) (by simp [hlt])
            have est : (a.take (k + 1)).foldl (stepD ly) lz = stepD ly ((a.take k).foldl (stepD ly) lz) a[k] := by rw [List.take_succ_eq_append_getElem hlt, List.foldl_append]; rfl
            have hlen := stepD_len ly (a.take k) lz
            have k1 := h.rot.get a[k]
            have hw5 : IntKind.i64.wrap ((k : Int) + 1) = (k : Int) + 1 := Go.IntWalk.i64_in _ ⟨by omega, by omega⟩
            have k2 : ∀ W, T3 w q r w.heap.size ly ((a.take k).foldl (stepD ly) lz) lx F2 W → hadL cmpS a[k] ly = false → CallsIn Fence.wide 0 Try.prog 24 #[.pointer (some ⟨r, 0, none⟩), .string a[k]] W fun e W3 => (∃ b, e = .returned (.bool b)) ∧ ∃ F3, T3 w w.heap.size q r lx ly ((a.take (k + 1)).foldl (stepD ly) lz) F3 W3 := fun W hW hn => by
              refine (hW.rot.drop a[k] (by omega)).mono ?_
              rintro e W3 ⟨he, F3, g1, _⟩
              refine ⟨⟨_, he⟩, F3, ?_⟩
              rw [est, stepD, hn]
              exact g1.rot
            have k3 : ∀ W, T3 w q r w.heap.size ly ((a.take k).foldl (stepD ly) lz) lx F2 W → hadL cmpS a[k] ly = true → T3 w w.heap.size q r lx ly ((a.take (k + 1)).foldl (stepD ly) lz) F2 W := fun W hW hn => by
              rw [est, stepD, hn]
              exact hW.rot.rot
            replace k2 := Lib.hid k2
            replace k3 := Lib.hid k3
            clear h est
            generalize a[k] = x at *
            cases hb : hadL cmpS x ly with
            | true =>
              rw [hb] at k1
              replace k1 := Lib.hid k1
              replace hb := Lib.hid hb
              gi_wp2_with (first | refine (⟨trivial, rfl, ?_⟩ : Fence.wide.fn _ ∧ Fence.wide.depth = none ∧ _) | (gi_at_call 23; (with_reducible refine k1.out.mono ?_); rintro e W2 ⟨⟨v1, rfl⟩, g1, _⟩; (replace g1 := Lib.hid g1)) | refine (⟨trivial, ?_⟩ : Fence.wide.fn _ ∧ _))
              exact ⟨⟨k + 1, F2, by go_num, by omega, k3.out _ g1.out hb.out⟩, by simp [intOf]; omega⟩
            | false =>
              rw [hb] at k1
              replace k1 := Lib.hid k1
              replace hb := Lib.hid hb
              gi_wp2_with (first | refine (⟨trivial, rfl, ?_⟩ : Fence.wide.fn _ ∧ Fence.wide.depth = none ∧ _) | (gi_at_call 23; (with_reducible refine k1.out.mono ?_); rintro e W2 ⟨⟨v1, rfl⟩, g1, _⟩; have k4 := Lib.hid (k2.out _ g1 hb.out)) | (gi_at_call 24; (with_reducible refine k4.out.mono ?_); rintro e W3 ⟨⟨b1, rfl⟩, F3, g2⟩; (replace g2 := Lib.hid g2)) | refine (⟨trivial, ?_⟩ : Fence.wide.fn _ ∧ _))
              exact ⟨⟨k + 1, F3, by go_num, by omega, g2.out⟩, by simp [intOf]; omega⟩
          · obtain rfl : k = a.length := by omega
            rw [List.take_length, hleft.out] at h
            clear hk hlt
            have k1 := Lib.hid (h.rot.gath (by omega))
            clear h
            gi_wp2_with (first | refine (⟨trivial, rfl, ?_⟩ : Fence.wide.fn _ ∧ Fence.wide.depth = none ∧ _) | (gi_at_call 11; (with_reducible refine k1.out.mono ?_); rintro e W2 ⟨bv, rfl, kv⟩; (replace kv := Lib.hid kv)) | ((with_reducible refine listV1 kv.out ?_ ?_ ?_); rfl; rfl; rintro v W3 ⟨f3, Ap, capp, b3, r3⟩; have f3d := f3.rot.rot.upd (Upd.drew (fun _ => False) W3) (fun _ h => h.elim); have b3d := b3.upd (Upd.drew (fun _ => False) W3) id; have r3d := r3.agree' (w' := W3.drew) ((Upd.drew (fun _ => False) W3).agree fun k hk => ⟨r3.lt' k hk, id⟩); have k4 := f3d.fin b3d r3d (by omega); (replace k4 := Lib.hid k4); have c3 := b3d.cell0; clear f3 b3 r3 f3d b3d r3d) | refine (⟨trivial, ?_⟩ : Fence.wide.fn _ ∧ _))
            refine wpIn_eager [(0, true), (2, true), (1, false), (3, false), (4, true), (5, true), (7, true), (6, false), (8, false), (9, true), (10, true), (11, true)] (fun V => V.cell? ⟨wr.heap.size, 0, none⟩ = some (.slice Ap ly.length capp)) (by kernel_rfl) (by kernel_rfl) c3 ?_
            repeat (first | (refine wpE_fl rfl rfl (fun _ _ => rfl) ?_; go_simp) | (refine wpE_sk rfl rfl ?_; go_simp) | (refine wpE_fl (v := ?_) rfl rfl ?_ ?_; rotate_left; (intro W' h'; (try dsimp only at h'); go_simp; exact rfl); go_simp) | (refine wpE_ef rfl ?_; go_simp; gi_wp2_with (first | refine (⟨trivial, rfl, ?_⟩ : Fence.wide.fn _ ∧ Fence.wide.depth = none ∧ _) | refine (⟨trivial, trivial, rfl, ?_⟩ : Fence.wide.fn _ ∧ Fence.wide.fn _ ∧ Fence.wide.depth = none ∧ _) | (gi_at_call 11; (with_reducible refine k4.out.mono ?_); rintro e V2 ⟨bv2, rfl, c4, k5⟩; (replace k5 := Lib.hid k5)) | (gi_at_call 14; (with_reducible refine k5.out.mono ?_); rintro e V3 ⟨rfl, c5, u5, k6, k7⟩; (replace u5 := Lib.hid u5); (replace k6 := Lib.hid k6); (replace k7 := Lib.hid k7)) | (gi_at_call 13; (with_reducible refine k6.out.mono ?_); rintro e V4 ⟨rfl, rfl⟩) | (gi_at_call 13; (with_reducible refine k7.out.mono ?_); rintro e V4 ⟨rfl, rfl⟩) | refine (⟨trivial, ?_⟩ : Fence.wide.fn _ ∧ _)); (first | refine ⟨by first | exact c5 | exact c4 | exact c3, ?_⟩ | skip)))
            refine wpE_nil ?_
            gi_wp2
            go_ret
            exact ⟨rfl, u5.out⟩
  · have NEWS : True := trivial
    by_cases hla : a.length ≤ 60
    · have hlb : ¬ b.length ≤ 60 := fun h => hlen ⟨hla, h⟩
      have hg1 : ¬ (60 : Int) < a.length := by omega
      have hg2 : (60 : Int) < b.length := by omega
      clear hlen
      gi_wp2_with (first | refine (⟨trivial, rfl, ?_⟩ : Fence.wide.fn _ ∧ Fence.wide.depth = none ∧ _) | (gi_at_call 8; refine new05.mono ?_; rintro e W1 ⟨rfl, ra, ua⟩; clear ra; (first | replace uz := Lib.hid (uz.out.trans' ua) | have uz := Lib.hid ua); clear ua) | (gi_at_call 9; refine awake05.mono ?_; rintro e W4 ⟨rfl, uw⟩; (replace uz := Lib.hid (uz.out.trans' uw)); clear uw) | refine (⟨trivial, ?_⟩ : Fence.wide.fn _ ∧ _))
      go_ret
      exact ⟨rfl, uz.out⟩
    · have hg1 : (60 : Int) < a.length := by omega
      clear hlen
      gi_wp2_with (first | refine (⟨trivial, rfl, ?_⟩ : Fence.wide.fn _ ∧ Fence.wide.depth = none ∧ _) | (gi_at_call 8; refine new05.mono ?_; rintro e W1 ⟨rfl, ra, ua⟩; clear ra; (first | replace uz := Lib.hid (uz.out.trans' ua) | have uz := Lib.hid ua); clear ua) | (gi_at_call 9; refine awake05.mono ?_; rintro e W4 ⟨rfl, uw⟩; (replace uz := Lib.hid (uz.out.trans' uw)); clear uw) | refine (⟨trivial, ?_⟩ : Fence.wide.fn _ ∧ _))
      go_ret
      exact ⟨rfl, uz.out⟩
end Go.Proofs.Ytaenkjeaadmgeaa

import Derived.Test.YtbpmcnfmgaolnaaProg
import Derived.Test.YtbpmcnfmgaolnaaPk1
import Derived.Lib.SliceRun
import Derived.RangeFuncNested
import Derived.RangeFuncBox
import Derived.RangeFuncLeaves
import Derived.Shelf.Abstract
import Derived.OwnWalkIn
import Derived.TacticsInMore
import Derived.LoopNIn
import Derived.LoopIn
/-
  piece: the small functions: slices.Clone, within, fixed, count, Fixed, Count, Text.
-/
namespace Go.Proofs.Ytbpmcnfmgaolnaa
open Go.RowKit

theorem u8_info : ∃ i z, Try.prog.info? 5 = some i ∧ i.zero = some z ∧ i.size = 1 ∧ i.bytes = 1 ∧ z.cells.size = 1 := by
  have h : (Try.prog.info? 5).map (fun i => (i.size, i.bytes, i.zero.map (fun z => z.cells.size))) = some (1, 1, some 1) := by kernel_rfl
  cases hq : Try.prog.info? 5 with
  | none => simp [hq] at h
  | some i =>
    cases hz : i.zero with
    | none => simp [hq, hz] at h
    | some z =>
      simp [hq, hz] at h
      exact ⟨i, z, rfl, hz, h.1, h.2.1, h.2.2⟩
/-- An append to bytes of one's own, at this program's types. -/
theorem wpList_app {w : World} {ops : Array Oper} {rest : List Oper} {o : Oper} {a : Act} {Q : Exit → Act → World → Prop} (hgd : o.guard = none) (s x : Operand)
    (ho : o.op = .call { callee := .builtin .append, args := #[s, x], argTypes := #[56, 56] })
    (w0 : World) (A : Option Addr) (n c : Nat) (bs : List Int) (hs : a.eval s = .slice A n c) (h : Mine 5 w0 w A n c bs) (B : Option Addr) (m c' : Nat) (cs : List Int) (hx : a.eval x = .slice B m c') (hB : Bys w B m cs) (hlen : n + m ≤ 140737488355328)
    (hK : ∀ A' n' c' w', Mine 5 w0 w' A' n' c' (bs ++ cs) → FrStep w0 A m A' → wpList Try.prog ops Q rest (a.put o.dst (.slice A' n' c')) w') : wpList Try.prog ops Q (o :: rest) a w := by
  obtain ⟨i, z, hi, hz, hs1, hby, hzs⟩ := u8_info
  exact wpList_mine hgd s x 56 ho 5 i z Try.underlying56 hi hz hs1 hby hzs w0 A n c bs hs h B m c' cs hx hB hlen hK

/-- No cell of the slice is frozen. -/
def Free (w : World) (A : Option Addr) (n : Nat) : Prop := ∀ ad, A = some ad → ∀ j, j < n → w.frozen? ⟨ad.block, ad.off + j, none⟩ = false
theorem Free.none (w : World) (n : Nat) : Free w Option.none n := fun _ h => by cases h
theorem Free.zero (w : World) (A : Option Addr) : Free w A 0 := fun _ _ j h => absurd h (Nat.not_lt_zero j)
theorem Free.keep {w w' : World} {A : Option Addr} {n : Nat} {bs : List Int} {F : Nat → Prop} (h : Free w A n) (hB : Bys w A n bs) (ho : Only F w w') (ha : Apart A n F) : Free w' A n := fun ad e j hj => by
  have h1 := h ad e j hj
  have h2 := ho.block ad.block (hB.lt (by omega) ad e) (ha (by omega) ad e)
  simpa only [World.frozen?, h2] using h1
theorem Free.below {w w' : World} {A : Option Addr} {n : Nat} {bs : List Int} (h : Free w A n) (hB : Bys w A n bs) (hb : Below w.heap.size w w') : Free w' A n :=
  h.keep hB (Only.of_below hb (fun _ => False)) (fun _ _ _ h => h)
theorem Free.of_blk {w : World} {g : Nat} {t : TypeId} {cs : List Value} (h : Blk w g t cs) (n : Nat) : Free w (some ⟨g, 0, Option.none⟩) n := fun ad e j _ => by
  injection e with e
  subst e
  have h1 := h.frozen j
  simpa using h1
theorem Tail.free {w : World} {ty : TypeId} {A : Option Addr} {n c : Nat} {bs : List Int} {G : Nat → Prop} (h : Tail w ty (.slice A n c) bs G) (hg : ∀ ad, A = some ad → G ad.block) : Free w A n := by
  rcases h.2 with ⟨h1, _⟩ | ⟨A', e1, _, rfl⟩
  · rcases h1.2 with ⟨e1, _⟩ | ⟨g, cap, cur, e1, _, hh, _⟩
    · injection e1 with e1 _ _
      subst e1
      exact Free.none _ _
    · injection e1 with e1 _ _
      subst e1
      intro ad e j _
      injection e with e
      subst e
      have hc : Blk w g ty cur.toList := by simpa [Blk] using hh
      have := hc.frozen j
      simpa using this
  · intro ad e
    exact (hg ad e).elim
theorem wpList_appF {w : World} {ops : Array Oper} {rest : List Oper} {o : Oper} {a : Act} {Q : Exit → Act → World → Prop} (hgd : o.guard = none) (s x : Operand)
    (ho : o.op = .call { callee := .builtin .append, args := #[s, x], argTypes := #[56, 56] })
    (w0 : World) (A : Option Addr) (n c : Nat) (bs : List Int) (hs : a.eval s = .slice A n c) (h : Mine 5 w0 w A n c bs) (B : Option Addr) (m c' : Nat) (cs : List Int) (hx : a.eval x = .slice B m c') (hB : Bys w B m cs) (hlen : n + m ≤ 140737488355328)
    (hK : ∀ A' n' c' w', Mine 5 w0 w' A' n' c' (bs ++ cs) → FrStep w0 A m A' → (n + m = 0 ∨ 0 < m → Free w' A' n') → wpList Try.prog ops Q rest (a.put o.dst (.slice A' n' c')) w') : wpList Try.prog ops Q (o :: rest) a w := by
  obtain ⟨i, z, hi, hz, hs1, hby, hzs⟩ := u8_info
  obtain ⟨h0, rfl, G, h1, h2⟩ := h
  refine wpList_append_tail hgd s x 56 ho 5 i z Try.underlying56 hi hz hs1 hby hzs _ bs G hs h1 B m c' cs hx hB hlen fun A' c2 G' w' t' o' g' k' => ?_
  have hG : ∀ i, G' i → w0.heap.size ≤ i := fun i hi => by
    rcases g' i hi with h | h
    · exact h2 i h
    · exact Nat.le_trans h0.size h
  refine hK A' _ c2 w' ⟨h0.trans (o'.below h0.size (fun i hi hg => by have := h2 i hg; omega)), by rw [List.length_append, hB.1], G', t', hG⟩ (fun hF => ?_) fun hm => ?_
  · rcases k' with ⟨hm, e1⟩ | hk
    · injection e1 with e1 _ _
      subst e1
      rcases hF with hF | hF
      · exact hF
      · omega
    · intro ad e1
      subst e1
      exact hG _ (hk ad.block rfl)
  · rcases Nat.eq_zero_or_pos m with h0 | h0
    · have : bs.length + m = 0 := by omega
      rw [this]
      exact Free.zero _ _
    · rcases k' with ⟨hm, _⟩ | hk
      · omega
      · exact t'.free fun ad e1 => by
          subst e1
          exact hk ad.block rfl
def MineF (e : TypeId) (w0 : World) (A : Option Addr) (bs : List Int) (en : Ending) (w' : World) : Prop :=
  ∃ A' n c, en = .returned (.slice A' n c) ∧ Mine e w0 w' A' n c bs ∧ (Fr w0 A → Fr w0 A') ∧ Free w' A' n
theorem eql_nil24 (w : World) (a : Option Addr) (n c n' c' : Nat) : (binOp .eql 56 (.slice a n c) (.slice none n' c')).run Try.prog w = .ok (.bool a.isNone) w :=
  Lib.run_eql_slice_nil w _ _ a n c n' c' Try.underlying56
set_option maxHeartbeats 400000 in
set_option maxRecDepth 100000 in
theorem clone_f (w0 w : World) (A : Option Addr) (n c : Nat) (bs : List Int) (hb : Below w0.heap.size w0 w) (hB : Bys w A n bs) (hn : n ≤ 140737488355328) :
    Calls Try.prog 116 #[.slice A n c] w (MineF 5 w0 none bs) := by
  have HN := hide hn
  clear hn
  have q24 := eql_nil24
  cases A with
  | none =>
    have hb0 : bs = [] := by
      rcases Nat.eq_zero_or_pos n with h1 | h1
      · exact List.eq_nil_of_length_eq_zero (by rw [hB.1]; exact h1)
      · obtain ⟨_, _, h2, _⟩ := hB.2.2 h1; cases h2
    subst hb0
    have h0 : n = 0 := hB.1.symm
    subst h0
    go_enter Try.func116, Try.ntmps116
    go_wp2
    go_ret
    exact ⟨_, _, _, rfl, Mine.nil hb _, fun _ => Fr.none _, Free.zero _ _⟩
  | some a =>
    go_enter Try.func116, Try.ntmps116
    go_wp2_with (at_builtin; refine wpList_appF rfl _ _ rfl w0 _ 0 0 [] (by rfl) (Mine.nil (hb.trans (((Below.refl _ w).alloc (Nat.le_refl _) _).mono hb.size)) _) (some a) n c bs (by rfl) (hB.alloc _) (by have := HN.out; omega) ?_; intro A' n' c' w' h1 f1 f2)
    go_wp2
    go_ret
    exact ⟨_, _, _, rfl, h1, fun _ => f1 (.inl (Fr.new w w0 hb.size 0)), f2 (by omega)⟩
theorem clone_any (w0 w : World) (A : Option Addr) (n c : Nat) (bs : List Int) (hb : Below w0.heap.size w0 w) (hB : Bys w A n bs) (hn : n ≤ 140737488355328) :
    Calls Try.prog 116 #[.slice A n c] w (MinePost 5 w0 none bs) :=
  (clone_f w0 w A n c bs hb hB hn).mono fun _ _ ⟨A', n', c', e, h1, h2, _⟩ => ⟨A', n', c', e, h1, h2⟩
set_option maxHeartbeats 400000 in
theorem within_any (w : World) (n : Int) : Calls Try.prog 130 #[.int .i64 n] w fun e w' => e = .returned (.int .i64 (Rd.within n)) ∧ w = w' := by
  go_enter Try.func130, Try.ntmps130
  go_wp2
  all_goals
    go_ret
    refine ⟨?_, rfl⟩
    show Ending.returned (.int .i64 _) = _
    congr 2
    unfold Rd.within
    omega
theorem u8_wrap (m : Int) : IntKind.u8.wrap m = m % 256 := by unfold IntKind.wrap; rfl
set_option maxHeartbeats 1000000 in
set_option maxRecDepth 100000 in
theorem fixed_any (w0 w : World) (A : Option Addr) (l c : Nat) (bs : List Int) (n k : Int) (hM : Mine 5 w0 w A l c bs) (hn : 0 ≤ n) (hn2 : n < 18446744073709551616) (h0 : 0 ≤ k) (h8 : k ≤ 8) (hl : l ≤ 100000000000) :
    Calls Try.prog 129 #[.slice A l c, .int .u64 n, .int .i64 k] w (MinePost 5 w0 A (bs ++ dig n.toNat k.toNat)) := by
  obtain ⟨k, rfl⟩ : ∃ kk : Nat, k = kk := ⟨k.toNat, by omega⟩
  obtain ⟨n, rfl⟩ : ∃ kk : Nat, n = kk := ⟨n.toNat, by omega⟩
  have HN2 := hide hn2
  clear hn2
  have hL := hide hM.len
  go_enter Try.func129, Try.ntmps129
  go_wp2
  go_loopw [0, 1, 8] (fun b m t wr => ∃ (j mm : Nat) (A' : Option Addr) (l' c' : Nat), j ≤ k ∧ b = .slice A' l' c' ∧ mm = n / 256 ^ j ∧ m = .int .u64 (mm : Int) ∧ t = .int .i64 j ∧ Mine 5 w0 wr A' l' c' (bs ++ dig n j) ∧ (Fr w0 A → Fr w0 A')) (fun _ _ t _ => k - (intOf t).toNat)
  case atStart => exact ⟨0, n, A, l, c, by omega, rfl, by simp, rfl, rfl, by simpa [dig] using hM, id⟩
  case round =>
    obtain ⟨j, m, A', l', c', hj, rfl, hm, rfl, rfl, ht, hf⟩ := hrel
    have HF := hide hf
    clear hf
    have HM := hide hm
    have m0 : (0 : Int) ≤ (m : Int) := by omega
    have hl' : l' = l + j := by rw [← ht.len, List.length_append, dig_length, hL.out]
    have HL := hide hl'
    clear hm hl'
    by_cases hlt : j < k
    · have hw := u8_wrap (m : Int)
      have b1 := Bys.one wr 5 ((m : Int) % 256) (by omega) (by omega)
      go_wp2_with (at_builtin; refine wpList_app rfl _ _ rfl w0 A' l' c' (bs ++ dig n j) (by rfl) (ht.alloc _) (some ⟨wr.heap.size, 0, none⟩) 1 1 [(m : Int) % 256] (by rfl) b1 (by rw [HL.out]; omega) ?_; intro A2 n2 c2 w2 t2 f2)
      go_wp2
      refine ⟨⟨j + 1, m / 256, A2, n2, c2, by omega, rfl, ?_, by simp, by simp, ?_, fun h => f2 (.inl (HF.out h))⟩, by simp [intOf]; omega⟩
      · rw [HM.out, Nat.div_div_eq_div_mul, Nat.pow_succ]
      · have e : ((m : Int) % 256) = ((n / 256 ^ j % 256 : Nat) : Int) := by rw [← HM.out]; omega
        rw [dig_snoc, ← List.append_assoc, ← e]
        exact t2
    · obtain rfl : j = k := by omega
      go_wp2
      go_ret
      exact ⟨A', l', c', rfl, by simpa using ht, HF.out⟩
end Go.Proofs.Ytbpmcnfmgaolnaa
/-
  piece: count, Fixed, Count.
-/
namespace Go.Proofs.Ytbpmcnfmgaolnaa
open Go.RowKit

theorem cnt1 (n : Int) (h0 : 0 ≤ n) (h : n < 253) : cnt n.toNat = [n] := by
  have : n.toNat < 253 := by omega
  simp [cnt, this]; omega
theorem cnt2 (n : Int) (h : 253 ≤ n) (h2 : n < 65536) : cnt n.toNat = 253 :: dig n.toNat 2 := by
  have a : ¬ n.toNat < 253 := by omega
  have b : n.toNat < 65536 := by omega
  simp [cnt, a, b]
theorem cnt4 (n : Int) (h : 65536 ≤ n) (h2 : n < 4294967296) : cnt n.toNat = 254 :: dig n.toNat 4 := by
  have a : ¬ n.toNat < 253 := by omega
  have b : ¬ n.toNat < 65536 := by omega
  have c : n.toNat < 4294967296 := by omega
  simp [cnt, a, b, c]
theorem cnt8 (n : Int) (h : 4294967296 ≤ n) : cnt n.toNat = 255 :: dig n.toNat 8 := by
  have a : ¬ n.toNat < 253 := by omega
  have b : ¬ n.toNat < 65536 := by omega
  have c : ¬ n.toNat < 4294967296 := by omega
  simp [cnt, a, b, c]
set_option maxHeartbeats 1000000 in
set_option maxRecDepth 100000 in
theorem count_any (w0 w : World) (A : Option Addr) (l c : Nat) (bs : List Int) (n : Int) (hM : Mine 5 w0 w A l c bs) (hn : 0 ≤ n) (hn2 : n < 18446744073709551616) (hl : l ≤ 50000000000) :
    Calls Try.prog 115 #[.slice A l c, .int .u64 n] w (MinePost 5 w0 none (bs ++ cnt n.toNat)) := by
  have HN2 := hide hn2
  clear hn2
  have hL := hide hM.len
  by_cases h1 : n < 253
  · have E := hide (cnt1 n hn h1)
    have hw : IntKind.u8.wrap n = n := by rw [u8_wrap]; omega
    have b1 := Bys.one w 5 n (by omega) (by omega)
    go_enter Try.func115, Try.ntmps115
    go_wp2_with (at_builtin; refine wpList_app rfl _ _ rfl w0 A l c bs (by rfl) (hM.alloc _) (some ⟨w.heap.size, 0, none⟩) 1 1 [n] (by rfl) b1 (by omega) ?_; intro A2 n2 c2 w2 t2 f2)
    go_wp2
    go_ret
    rw [E.out]
    exact MinePost.mk t2 (f2 (.inr (by decide)))
  · by_cases h2 : n < 65536
    · have E := hide (cnt2 n (by omega) h2)
      have t1 : decide (n < 253) = false := by simp; omega
      have t2 : decide (n < 65536) = true := by simp; omega
      have b1 := Bys.one w 5 253 (by omega) (by omega)
      clear h1 h2
      go_enter Try.func115, Try.ntmps115
      go_wp2_with (at_builtin; refine wpList_app rfl _ _ rfl w0 A l c bs (by rfl) (hM.alloc _) (some ⟨w.heap.size, 0, none⟩) 1 1 [253] (by rfl) b1 (by omega) ?_; intro A2 n2 c2 w2 t2 f2)
      have hl2 : n2 = l + 1 := by rw [← t2.len]; simp [hL.out]
      refine (fixed_any w0 w2 A2 n2 c2 _ n 2 t2 hn HN2.out (by decide) (by decide) (by omega)).mono ?_
      rintro e w3 ⟨A3, n3, c3, rfl, t3, f3⟩
      have T := hide hl2
      clear hl2
      go_wp2
      go_ret
      refine ⟨A3, n3, c3, rfl, by rw [E.out]; simpa using t3, fun _ => f3 (f2 (.inr (by decide)))⟩
    · by_cases h3 : n < 4294967296
      · have E := hide (cnt4 n (by omega) h3)
        have t1 : decide (n < 253) = false := by simp; omega
        have t2 : decide (n < 65536) = false := by simp; omega
        have t3 : decide (n < 4294967296) = true := by simp; omega
        have b1 := Bys.one w 5 254 (by omega) (by omega)
        clear h1 h2 h3
        go_enter Try.func115, Try.ntmps115
        go_wp2_with (at_builtin; refine wpList_app rfl _ _ rfl w0 A l c bs (by rfl) (hM.alloc _) (some ⟨w.heap.size, 0, none⟩) 1 1 [254] (by rfl) b1 (by omega) ?_; intro A2 n2 c2 w2 t2 f2)
        have hl2 : n2 = l + 1 := by rw [← t2.len]; simp [hL.out]
        refine (fixed_any w0 w2 A2 n2 c2 _ n 4 t2 hn HN2.out (by decide) (by decide) (by omega)).mono ?_
        rintro e w3 ⟨A3, n3, c3, rfl, t3, f3⟩
        have T := hide hl2
        clear hl2
        go_wp2
        go_ret
        refine ⟨A3, n3, c3, rfl, by rw [E.out]; simpa using t3, fun _ => f3 (f2 (.inr (by decide)))⟩
      · have E := hide (cnt8 n (by omega))
        have t1 : decide (n < 253) = false := by simp; omega
        have t2 : decide (n < 65536) = false := by simp; omega
        have t3 : decide (n < 4294967296) = false := by simp; omega
        have b1 := Bys.one w 5 255 (by omega) (by omega)
        clear h1 h2 h3
        go_enter Try.func115, Try.ntmps115
        go_wp2_with (at_builtin; refine wpList_app rfl _ _ rfl w0 A l c bs (by rfl) (hM.alloc _) (some ⟨w.heap.size, 0, none⟩) 1 1 [255] (by rfl) b1 (by omega) ?_; intro A2 n2 c2 w2 t2 f2)
        have hl2 : n2 = l + 1 := by rw [← t2.len]; simp [hL.out]
        refine (fixed_any w0 w2 A2 n2 c2 _ n 8 t2 hn HN2.out (by decide) (by decide) (by omega)).mono ?_
        rintro e w3 ⟨A3, n3, c3, rfl, t3, f3⟩
        have T := hide hl2
        clear hl2
        go_wp2
        go_ret
        refine ⟨A3, n3, c3, rfl, by rw [E.out]; simpa using t3, fun _ => f3 (f2 (.inr (by decide)))⟩
theorem within_range (n : Int) : 0 ≤ Rd.within n ∧ Rd.within n ≤ 8 := by unfold Rd.within; omega
set_option maxHeartbeats 1000000 in
set_option maxRecDepth 100000 in
theorem Fixed_any (w0 w : World) (A : Option Addr) (l c : Nat) (bs : List Int) (n k : Int) (hb : Below w0.heap.size w0 w) (hB : Bys w A l bs) (hn : 0 ≤ n) (hn2 : n < 18446744073709551616) (hl : l ≤ 50000000000) :
    Calls Try.prog 86 #[.slice A l c, .int .u64 n, .int .i64 k] w (MinePost 5 w0 none (bs ++ dig n.toNat (Rd.within k).toNat)) := by
  have HN2 := hide hn2
  have hr := within_range k
  have HL := hide hB.1
  clear hn2
  go_enter Try.func86, Try.ntmps86
  go_wp2_with (go_at_call 116; refine (clone_any w0 w A l c bs hb hB (by omega)).mono ?_; rintro e w1 ⟨A1, n1, c1, rfl, t1, f1⟩)
  go_wp2_with (go_at_call 130; refine (within_any _ _).mono ?_; rintro e w2 ⟨rfl, rfl⟩)
  have h1 : n1 = l := by rw [← t1.len, HL.out]
  refine (fixed_any w0 w1 A1 n1 c1 _ n _ t1 hn HN2.out hr.1 hr.2 (by omega)).mono ?_
  rintro e w3 ⟨A3, n3, c3, rfl, t3, f3⟩
  clear h1
  go_wp2
  go_ret
  exact ⟨A3, n3, c3, rfl, t3, fun h => f3 (f1 h)⟩
set_option maxHeartbeats 1000000 in
set_option maxRecDepth 100000 in
theorem Count_any (w0 w : World) (A : Option Addr) (l c : Nat) (bs : List Int) (n : Int) (hb : Below w0.heap.size w0 w) (hB : Bys w A l bs) (hc : l ≤ c) (hn : 0 ≤ n) (hn2 : n < 18446744073709551616) (hl : l ≤ 50000000000) :
    Calls Try.prog 74 #[.slice A l c, .int .u64 n] w (MinePost 5 w0 none (bs ++ cnt n.toNat)) := by
  have HN2 := hide hn2
  clear hn2
  go_enter Try.func74, Try.ntmps74
  go_wp2_with fail
  refine (count_any w0 w A l l bs n (Mine.full hb hB) hn HN2.out hl).mono ?_
  rintro e w3 ⟨A3, n3, c3, rfl, t3, f3⟩
  go_wp2
  go_ret
  exact ⟨A3, n3, c3, rfl, t3, f3⟩
set_option maxHeartbeats 1000000 in
set_option maxRecDepth 100000 in
theorem Text_any (w0 w : World) (A : Option Addr) (l c : Nat) (bs : List Int) (B : Option Addr) (m cB : Nat) (xss : List (List Int)) (hb : Below w0.heap.size w0 w) (hB : Bys w A l bs) (hX : Byss w B m xss) (hl : l ≤ 1000000000) (hm : m ≤ 10000) (hx : ∀ x ∈ xss, x.length ≤ 1000000) :
    Calls Try.prog 99 #[.slice A l c, .slice B m cB] w (MinePost 5 w0 none (bs ++ xss.flatMap txt)) := by
  have HX := hide hx
  have HL := hide hB.1
  have HM := hide hX.1
  clear hx
  go_enter Try.func99, Try.ntmps99
  go_wp2_with (go_at_call 116; refine (clone_any w w A l c bs (Below.refl _ _) hB (by omega)).mono ?_; rintro e w1 ⟨A1, n1, c1, rfl, t1, f1⟩)
  go_loopw [5, 12] (fun o i wr => ∃ (j : Nat) (A' : Option Addr) (n' c' : Nat), j ≤ m ∧ o = .slice A' n' c' ∧ i = .int .i64 j ∧ n' ≤ 1000000000 + j * 1000009 ∧ Mine 5 w wr A' n' c' (bs ++ (xss.take j).flatMap txt) ∧ Fr w A') (fun _ i _ => m - (intOf i).toNat)
  case atStart => exact ⟨0, A1, n1, c1, by omega, rfl, rfl, by have := t1.len; have := HL.out; omega, by simpa using t1, f1 (Fr.none _)⟩
  case round =>
    obtain ⟨j, A', n', c', hj, rfl, rfl, hn', ht, hf⟩ := hrel
    by_cases hlt : j < m
    · obtain ⟨b, off, rfl, hrow⟩ := hX.2 (by omega)
      obtain ⟨x, hx⟩ : ∃ x, xss[j]? = some x := ⟨_, List.getElem?_eq_getElem (by rw [HM.out]; exact hlt)⟩
      obtain ⟨A2, n2, c2, hcell, hBx, hcx⟩ := hrow j x hx
      have hxl := HX.out x (List.mem_of_getElem? hx)
      have HBL := hide hBx.1
      have hcell2 := cell_under ht.below hcell
      have hs : xss.take (j + 1) = xss.take j ++ [x] := by rw [List.take_add_one, hx]; rfl
      have e : bs ++ (xss.take (j + 1)).flatMap txt = bs ++ (xss.take j).flatMap txt ++ cnt x.length ++ x := by
        rw [hs, List.flatMap_append]; simp [txt, List.append_assoc]
      have E := hide e
      have HR := hide hrow
      have i0 : (0 : Int) ≤ (j : Int) := by omega
      have i1 : (j : Int) < (m : Int) := by omega
      have q0 := hBx.1
      have n20 : n2 ≤ 1000000 := by omega
      have hu : IntKind.u64.wrap (n2 : Int) = (n2 : Int) := by rw [IntKind.wrap_u64]; omega
      clear e hs hx hcell hrow hX q0 hxl
      go_wp2_with fail
      refine (count_any w wr A' n' c' _ n2 ht (by omega) (by omega) (by omega)).mono ?_
      rintro e w3 ⟨A3, n3, c3, rfl, t3, f3⟩
      have h3 : n3 ≤ n' + 9 := by
        have e1 := t3.len
        have e2 := ht.len
        have e3 := (cnt_length ((n2 : Int)).toNat).2
        rw [List.length_append] at e1
        omega
      go_wp2_with (at_builtin; refine wpList_app rfl _ _ rfl w A3 n3 c3 _ (by rfl) t3 A2 n2 c2 x (by rfl) (t3.old hBx) (by omega) ?_; intro A4 n4 c4 w4 t4 f4)
      have h4 : n4 = n3 + n2 := by
        have e1 := t4.len
        have e2 := t3.len
        have e3 := hBx.1
        rw [List.length_append] at e1
        omega
      have H4 := hide h4
      clear h4
      go_wp2
      refine ⟨⟨j + 1, A4, n4, c4, by omega, rfl, by simp, by have := H4.out; omega, ?_, f4 (.inl (f3 (Fr.none _)))⟩, by simp [intOf]; omega⟩
      rw [E.out]
      simpa [HBL.out] using t4
    · obtain rfl : j = m := by omega
      have e : bs ++ (xss.take j).flatMap txt = bs ++ xss.flatMap txt := by rw [List.take_of_length_le (by rw [HM.out]; exact Nat.le_refl _)]
      rw [e] at ht
      have T := hide ht
      clear ht e
      go_wp2
      go_ret
      exact MinePost.mk (T.out.older hb) (hf.older hb)
end Go.Proofs.Ytbpmcnfmgaolnaa
/-
  piece: the reader: New, Raw, Left, Err.
-/
namespace Go.Proofs.Ytbpmcnfmgaolnaa
open Go.RowKit

/-- A reader in block g, whose bytes lie in block h. -/
def RdAt (T : TypeId) (w : World) (g h : Nat) (r : Rd) : Prop :=
  ∃ A n c, Blk w g T [.slice A n c, .int .i64 r.err] ∧ Bys w A n r.rest ∧ n ≤ c ∧ (0 < n → (∀ ad, A = some ad → ad.block = h) ∧ g ≠ h) ∧ h < w.heap.size ∧ n ≤ 1000000000
section
variable {T : TypeId} {w w' : World} {g h : Nat} {r : Rd} {F : Nat → Prop}
theorem RdAt.keep (hR : RdAt T w g h r) (ho : Only F w w') (hg : ¬ F g) (hh : ¬ F h) : RdAt T w' g h r := by
  obtain ⟨A, n, c, hb, hB, hc, hA, hlt, hn⟩ := hR
  exact ⟨A, n, c, ho.blk hb hg, hB.keep ho (fun h0 ad e hf => hh (by rw [← (hA h0).1 ad e]; exact hf)), hc, hA, Nat.lt_of_lt_of_le hlt ho.size, hn⟩
theorem RdAt.below (hR : RdAt T w g h r) (hb : Below w.heap.size w w') : RdAt T w' g h r :=
  hR.keep (Only.of_below hb (fun _ => False)) (fun h => h) (fun h => h)
theorem RdAt.drew (hR : RdAt T w g h r) : RdAt T w.drew g h r := hR
theorem RdAt.lt (hR : RdAt T w g h r) : g < w.heap.size ∧ h < w.heap.size := by
  obtain ⟨A, n, c, hb, _, _, _, hlt, _⟩ := hR
  exact ⟨hb.lt, hlt⟩
/-- The bytes' slice is turned, the rest of the record stays. -/
theorem RdAt.turn {A : Option Addr} {n c : Nat} {x : Value} {rest : List Int} {err : Int} (hb : Blk w g T [x, .int .i64 err]) (hB : Bys w A n rest) (hc : n ≤ c) (hA : 0 < n → (∀ ad, A = some ad → ad.block = h) ∧ g ≠ h) (hlt : h < w.heap.size) (hn : n ≤ 1000000000) :
    RdAt T (w.setCell ⟨g, 0, none⟩ (.slice A n c)) g h ⟨rest, err⟩ := by
  have o := (Only.refl (fun i => i = g) w).setCell (p := ⟨g, 0, none⟩) (.inr rfl) (.slice A n c)
  exact ⟨A, n, c, by simpa using hb.set_ 0 (.slice A n c), hB.keep o (fun h0 ad e hf => (hA h0).2 (by rw [← (hA h0).1 ad e]; exact hf.symm)), hc, hA, Nat.lt_of_lt_of_le hlt o.size, hn⟩
theorem RdAt.fail {A : Option Addr} {n c : Nat} {x : Value} {rest : List Int} {err : Int} (hb : Blk w g T [.slice A n c, x]) (hB : Bys w A n rest) (hc : n ≤ c) (hA : 0 < n → (∀ ad, A = some ad → ad.block = h) ∧ g ≠ h) (hlt : h < w.heap.size) (hn : n ≤ 1000000000) :
    RdAt T (w.setCell ⟨g, 1, none⟩ (.int .i64 err)) g h ⟨rest, err⟩ := by
  have o := (Only.refl (fun i => i = g) w).setCell (p := ⟨g, 1, none⟩) (.inr rfl) (.int .i64 err)
  exact ⟨A, n, c, by simpa using hb.set_ 1 (.int .i64 err), hB.keep o (fun h0 ad e hf => (hA h0).2 (by rw [← (hA h0).1 ad e]; exact hf.symm)), hc, hA, Nat.lt_of_lt_of_le hlt o.size, hn⟩
end
theorem Only.cell1 (w : World) (g i : Nat) (v : Value) : Only (fun j => j = g) w (w.setCell ⟨g, i, none⟩ v) := (Only.refl (fun j => j = g) w).setCell (.inr rfl) _
theorem Bys.zero (w : World) (A : Option Addr) (bs : List Int) {n : Nat} (hl : bs.length = n) (h0 : n = 0) : Bys w A n bs := by
  subst h0
  have := List.eq_nil_of_length_eq_zero hl
  subst this
  exact Bys.nil w A
theorem Bys.from_ {w : World} {b off n : Nat} {bs : List Int} (h : Bys w (some ⟨b, off, none⟩) n bs) (k : Nat) (hk : k ≤ n) : Bys w (some ⟨b, off + k, none⟩) (n - k) (bs.drop k) := by
  have hl := h.1
  refine ⟨by simp [hl], fun v hv => h.2.1 v (List.mem_of_mem_drop hv), fun hm => ?_⟩
  obtain ⟨b2, o2, e, hc⟩ := h.2.2 (by omega)
  injection e with e
  injection e with e1 e2
  subst e1; subst e2
  refine ⟨b, off + k, rfl, fun j v hv => ?_⟩
  rw [Nat.add_assoc]
  rw [List.getElem?_drop] at hv
  exact hc (k + j) v hv
/-- A part of a slice of bytes. -/
theorem Bys.sub {w : World} {b off n : Nat} {bs : List Int} (h : Bys w (some ⟨b, off, none⟩) n bs) (i m : Nat) (hi : i + m ≤ n) : Bys w (some ⟨b, off + i, none⟩) m ((bs.drop i).take m) := by
  have hl := h.1
  refine ⟨by simp [hl]; omega, fun v hv => h.2.1 v (List.mem_of_mem_drop (List.mem_of_mem_take hv)), fun hm => ?_⟩
  obtain ⟨b2, o2, e, hc⟩ := h.2.2 (by omega)
  injection e with e
  injection e with e1 e2
  subst e1; subst e2
  refine ⟨b, off + i, rfl, fun j v hv => ?_⟩
  rw [Nat.add_assoc]
  refine hc (i + j) v ?_
  rw [List.getElem?_take] at hv
  split at hv
  · rwa [List.getElem?_drop] at hv
  · cases hv
theorem Bys.head {w : World} {A : Option Addr} {n : Nat} {bs : List Int} (h : Bys w A n bs) (m : Nat) (hm : m ≤ n) : Bys w A m (bs.take m) := by
  refine ⟨by simp [h.1]; omega, fun v hv => h.2.1 v (List.mem_of_mem_take hv), fun hm0 => ?_⟩
  obtain ⟨b, off, e, hc⟩ := h.2.2 (by omega)
  refine ⟨b, off, e, fun j v hv => hc j v ?_⟩
  rw [List.getElem?_take] at hv
  split at hv
  · exact hv
  · cases hv
/-- What is read: bytes of the reader's call's own. -/
def RawPost (T : TypeId) (w : World) (g h : Nat) (r' : Rd) (bs : List Int) (e : Ending) (w' : World) : Prop :=
  ∃ A m c, e = .returned (.slice A m c) ∧ Bys w' A m bs ∧ m ≤ c ∧ Fr w A ∧ RdAt T w' g h r' ∧ Only (fun i => i = g) w w'
set_option maxHeartbeats 1000000 in
set_option maxRecDepth 100000 in
theorem New_any (w : World) (A : Option Addr) (n c : Nat) (bs : List Int) (hB : Bys w A n bs) (hn : n ≤ 1000000000) :
    Calls Try.prog 75 #[.slice A n c] w fun e w' => ∃ g h, e = .returned (.pointer (some ⟨g, 0, none⟩)) ∧ RdAt 164 w' g h ⟨bs, 0⟩ ∧ w.heap.size ≤ g ∧ w.heap.size ≤ h ∧ Below w.heap.size w w' := by
  go_enter Try.func75, Try.ntmps75
  go_wp2_with (go_at_call 116; refine (clone_any w w A n c bs (Below.refl _ _) hB (by omega)).mono ?_; rintro e w1 ⟨A1, n1, c1, rfl, t1, f1⟩)
  go_ret
  have b1 := Blk.new w1 164 [.slice A1 n1 c1, .int .i64 0]
  have hs := t1.below.size
  have hlen : n1 ≤ 1000000000 := by have := t1.len; have := hB.1; omega
  have hbel : Below w.heap.size w (w1.alloc (.cells #[.slice A1 n1 c1, .int .i64 0] 164)) := t1.below.trans ((Below.refl _ w1).alloc hs _)
  by_cases h0 : 0 < n1
  · obtain ⟨b, off, rfl, _⟩ := t1.bys.2.2 h0
    have hlt := t1.bys.lt h0 _ rfl
    have hf := f1 (Fr.none _) _ rfl
    refine ⟨w1.heap.size, b, rfl, ⟨_, n1, c1, b1, t1.bys.alloc _, t1.cap, fun _ => ⟨fun ad e => by injection e with e; rw [← e], by simp at hlt; omega⟩, by simp at hlt ⊢; omega, hlen⟩, hs, hf, hbel⟩
  · exact ⟨w1.heap.size, w1.heap.size, rfl, ⟨_, n1, c1, b1, t1.bys.alloc _, t1.cap, fun h => absurd h h0, by simp, hlen⟩, hs, hs, hbel⟩
/-- What is read: bytes of the reader's call's own, that are not frozen. -/
def RawF (T : TypeId) (w : World) (g h : Nat) (r' : Rd) (bs : List Int) (e : Ending) (w' : World) : Prop :=
  ∃ A m c, e = .returned (.slice A m c) ∧ Bys w' A m bs ∧ m ≤ c ∧ Fr w A ∧ RdAt T w' g h r' ∧ Only (fun i => i = g) w w' ∧ Free w' A m
theorem RawF.post {T : TypeId} {w w' : World} {g h : Nat} {r' : Rd} {bs : List Int} {e : Ending} (h9 : RawF T w g h r' bs e w') : RawPost T w g h r' bs e w' := by
  obtain ⟨A, m, c, h1, h2, h3, h4, h5, h6, _⟩ := h9
  exact ⟨A, m, c, h1, h2, h3, h4, h5, h6⟩
set_option maxHeartbeats 1000000 in
set_option maxRecDepth 100000 in
theorem Raw_f (w : World) (g h : Nat) (r : Rd) (n : Int) (hR : RdAt 164 w g h r) :
    Calls Try.prog 117 #[.pointer (some ⟨g, 0, none⟩), .int .i64 n] w (RawF 164 w g h (r.raw n).2 (r.raw n).1) := by
  obtain ⟨rest, err⟩ := r
  have hR0 := hR
  obtain ⟨A, m, c, hb, hB, hc, hA, hlt, hm⟩ := hR
  have c0 : w.cell? ⟨g, 0, none⟩ = some (.slice A m c) := (hb.cell 0).trans rfl
  have c1 : w.cell? ⟨g, 1, none⟩ = some (.int .i64 err) := (hb.cell 1).trans rfl
  have f0 := hb.frozen 0
  have f1 := hb.frozen 1
  have HL := hide hB.1
  have HA := hide hA
  clear hA
  by_cases he : err = 0
  · subst he
    by_cases h1 : n < 1
    · have E : Hid (Rd.raw ⟨rest, 0⟩ n = ([], ⟨rest, 0⟩)) := hide (by simp [Rd.raw, h1])
      go_enter Try.func117, Try.ntmps117
      go_wp2
      go_ret
      rw [E.out]
      exact ⟨none, 0, 0, rfl, Bys.nil _ _, Nat.le_refl _, Fr.none _, hR0, Only.refl _ _, Free.zero _ _⟩
    · by_cases h2 : (m : Int) < n
      · have E : Hid (Rd.raw ⟨rest, 0⟩ n = ([], ⟨rest, 61⟩)) := hide (by simp [Rd.raw, h1, HL.out, h2])
        have n0 : 0 ≤ n := by omega
        go_enter Try.func117, Try.ntmps117
        go_wp2
        go_ret
        rw [E.out]
        exact ⟨none, 0, 0, rfl, Bys.nil _ _, Nat.le_refl _, Fr.none _, RdAt.fail hb hB hc HA.out hlt hm, Only.cell1 _ _ _ _, Free.zero _ _⟩
      · have hn0 : 1 ≤ n := by omega
        obtain ⟨b, off, rfl, _⟩ := hB.2.2 (by omega)
        obtain ⟨k, rfl⟩ : ∃ k : Nat, n = k := ⟨n.toNat, by omega⟩
        have E : Hid (Rd.raw ⟨rest, 0⟩ k = (rest.take k, ⟨rest.drop k, 0⟩)) := hide (by simp [Rd.raw, h1, HL.out, h2])
        have hk : k ≤ m := by omega
        clear h1 h2
        go_enter Try.func117, Try.ntmps117
        go_wp2_with (go_at_call 116; refine (clone_f w w _ k c (rest.take k) (Below.refl _ _) (hB.head k hk) (by omega)).mono ?_; rintro e w1 ⟨A1, n1, c1, rfl, t1, f1, ff⟩; have b1 := hb.under t1.below; have c0' := b1.c0; have f0' := b1.frozen 0)
        all_goals
          go_ret
          rw [E.out]
          have hf := f1 (Fr.none _)
          have hlg := hb.lt
          have hsz := t1.below.size
          refine ⟨A1, n1, c1, rfl, t1.bys.keep (Only.cell1 _ _ _ _) (fun _ ad e hg => by have := hf ad e; omega), t1.cap, hf, RdAt.turn b1 ?_ (by omega) (fun _ => ⟨fun ad e => ?_, (HA.out (by omega)).2⟩) (by omega) (by omega), (Only.of_below t1.below _).trans (Only.cell1 _ _ _ _) (fun _ _ h => h), ff.keep t1.bys (Only.cell1 _ _ _ _) (fun _ ad e hg => by have := hf ad e; omega)⟩
          · first
              | exact Bys.zero _ _ _ (by rw [List.length_drop, HL.out]) (by omega)
              | exact (hB.below t1.below).from_ k hk
          · injection e with e
            rw [← e]
            exact (HA.out (by omega)).1 ⟨b, off, none⟩ rfl
  · have E : Hid (Rd.raw ⟨rest, err⟩ n = ([], ⟨rest, err⟩)) := hide (by simp [Rd.raw, he])
    have he' : (err != 0) = true := by simpa using he
    go_enter Try.func117, Try.ntmps117
    go_wp2
    go_ret
    rw [E.out]
    exact ⟨none, 0, 0, rfl, Bys.nil _ _, Nat.le_refl _, Fr.none _, hR0, Only.refl _ _, Free.zero _ _⟩
theorem Raw_any (w : World) (g h : Nat) (r : Rd) (n : Int) (hR : RdAt 164 w g h r) :
    Calls Try.prog 117 #[.pointer (some ⟨g, 0, none⟩), .int .i64 n] w (RawPost 164 w g h (r.raw n).2 (r.raw n).1) :=
  (Raw_f w g h r n hR).mono fun _ _ h9 => h9.post
set_option maxHeartbeats 400000 in
theorem Left_any (w : World) (g h : Nat) (r : Rd) (hR : RdAt 164 w g h r) :
    Calls Try.prog 80 #[.pointer (some ⟨g, 0, none⟩)] w fun e w' => e = .returned (.int .i64 r.rest.length) ∧ w = w' := by
  obtain ⟨A, m, c, hb, hB, hc, hA, hlt, hm⟩ := hR
  have c0 := hb.c0
  have HL := hide hB.1
  go_enter Try.func80, Try.ntmps80
  go_wp2
  go_ret
  exact ⟨by rw [HL.out]; rfl, rfl⟩
set_option maxHeartbeats 400000 in
theorem Err_any (w : World) (g h : Nat) (r : Rd) (hR : RdAt 164 w g h r) :
    Calls Try.prog 79 #[.pointer (some ⟨g, 0, none⟩)] w fun e w' => e = .returned (.int .i64 r.err) ∧ w = w' := by
  obtain ⟨A, m, c, hb, hB, hc, hA, hlt, hm⟩ := hR
  have c1 := hb.c1
  go_enter Try.func79, Try.ntmps79
  go_wp2
  go_ret
  exact ⟨rfl, rfl⟩
end Go.Proofs.Ytbpmcnfmgaolnaa
/-
  piece.number: the number of bytes, by a range over slices.Backward.
-/
namespace Go.Proofs.Ytbpmcnfmgaolnaa
open Go.RowKit Go.Shelf

attribute [local go_sem] Oper.semAt_some

/-- What slices.Backward gives: a place and a byte. -/
abbrev IB := { x : Nat × Int // 0 ≤ x.2 ∧ x.2 ≤ 255 }
/-- What has come when k rounds are over. -/
def upto {α : Type} (f : Nat → α) (k : Nat) : List α := (List.range k).map f
theorem upto_succ {α : Type} (f : Nat → α) (k : Nat) : upto f (k + 1) = upto f k ++ [f k] := by simp [upto, List.range_succ]
theorem upto_length {α : Type} (f : Nat → α) (k : Nat) : (upto f k).length = k := by simp [upto]
def byteAt (bs : List Int) (h : Byt bs) (i : Nat) : { x : Int // 0 ≤ x ∧ x ≤ 255 } :=
  if hi : i < bs.length then ⟨bs[i], h _ (List.getElem_mem hi)⟩ else ⟨0, by omega⟩
theorem byteAt_get (bs : List Int) (h : Byt bs) (i : Nat) (hi : i < bs.length) : bs[i]? = some (byteAt bs h i).1 := by
  simp [byteAt, hi]
def backAt (bs : List Int) (h : Byt bs) (k : Nat) : IB := ⟨(bs.length - 1 - k, (byteAt bs h (bs.length - 1 - k)).1), (byteAt bs h (bs.length - 1 - k)).2⟩
def encIB (x : IB) : Array Value := #[.int .i64 (x.1.1 : Int), .int .u8 x.1.2]

/-- Whatever lies in cells lies as it lay, but in block X. -/
def KpX (X : Nat) (A B : World) : Prop := ∀ i o, i ≠ X → A.heap[i]? = some o → o.isCells = true → B.heap[i]? = some o
theorem KpX.refl (X : Nat) (A : World) : KpX X A A := fun _ _ _ h _ => h
theorem KpX.trans {X : Nat} {A B C : World} (h : KpX X A B) (k : KpX X B C) : KpX X A C := fun i o hi ho hc => k i o hi (h i o hi ho hc) hc
theorem KpX.put {X : Nat} (W : World) (l : Nat) (o o' : Obj) (h : W.heap[l]? = some o) (hc : o.isCells = false) : KpX X W (W.putObj l o') := fun i p hi hp hpc => by
  have hne : i ≠ l := by
    rintro rfl
    rw [h] at hp
    injection hp with hp
    subst hp
    rw [hc] at hpc
    cases hpc
  have hg := grownBy_putObj' W l o'
  exact (hg.block i (Array.getElem?_eq_some_iff.1 hp).1 (fun e => by injection e with e; exact hne e)).trans hp
theorem KpX.cell {X : Nat} {A B : World} (h : KpX X A B) {p : Addr} {v : Value} (hp : p.block ≠ X) (hv : A.cell? p = some v) : B.cell? p = some v := by
  have : ∃ o, A.heap[p.block]? = some o ∧ o.isCells = true := by
    unfold World.cell? at hv
    split at hv
    · rename_i c t m ho
      exact ⟨_, ho, rfl⟩
    · cases hv
  obtain ⟨o, ho, hc⟩ := this
  exact (World.cell?_of_block (w := A) ((h p.block o hp ho hc).trans ho.symm)).trans hv
theorem KpX.set (X : Nat) (A : World) (o : Nat) (v : Value) : KpX X A (A.setCell ⟨X, o, none⟩ v) := fun i _ hi hp _ => (Below.heap_setCell A ⟨X, o, none⟩ v i hi).trans hp
set_option maxRecDepth 100000 in
set_option maxHeartbeats 2000000 in
theorem back1_in (F : Fence) (n : Nat) (h7 : F.fn 144) (hro : F.round = none) (hn : 1 ≤ n) (l Bs X b off cap : Nat) (bs : List Int) (hby : Byt bs) (hreach : bs.length ≤ 1000000000) (hb : b ≠ X) (J Jx : List IB → World → Prop)
    (hY : ∀ pre x W, J pre W → pre.length < bs.length → YieldAt F (n - 1) Try.prog l (encIB x) W fun e W' =>
      (e = .returned (.bool true) ∧ J (pre ++ [x]) W' ∧ KpX X W W') ∨ (e = .returned (.bool false) ∧ Jx (pre ++ [x]) W'))
    (W : World) (hBn : Bs ≠ X) (hBs : W.cell? ⟨Bs, 0, none⟩ = some (.slice (some ⟨b, off, none⟩) bs.length cap)) (hc : ∀ (j : Nat) (v : Int), bs[j]? = some v → W.cell? ⟨b, off + j, none⟩ = some (.int .u8 v)) (h0 : J [] W) :
    CallsIn F n Try.prog 144 #[.func (.yield l) #[] #[], .pointer (some ⟨Bs, 0, none⟩)] W fun e W' => (∃ v, e = .returned v) ∧
      ((∃ ys, ys = upto (backAt bs hby) bs.length ∧ J ys W') ∨ (∃ pre, Jx pre W')) := by
  have HC := hide hc
  clear hc
  refine callsIn_of_wp Try.func144 rfl h7 ?_ hro
  simp only [Try.ntmps144, List.size_toArray, List.length_cons, List.length_nil, Nat.reduceAdd, Nat.reduceSub, Array.replicate_succ, Array.replicate_zero, List.push_toArray, List.append_toArray, List.nil_append, List.cons_append]
  gi_wp2
  gi_loopw [3] (fun i wr => ∃ r : Nat, r ≤ bs.length ∧ i = .int .i64 ((r : Int) - 1) ∧ J (upto (backAt bs hby) (bs.length - r)) wr ∧ KpX X W wr)
    (fun i _ => (intOf i + 1).toNat)
  case atStart => exact ⟨bs.length, Nat.le_refl _, rfl, by simpa [upto] using h0, KpX.refl _ _⟩
  case round =>
    obtain ⟨r, hr, rfl, hJs, hnx⟩ := hrel
    have hBs2 : wr.cell? ⟨Bs, 0, none⟩ = some (.slice (some ⟨b, off, none⟩) bs.length cap) := hnx.cell (p := ⟨Bs, 0, none⟩) hBn hBs
    cases r with
    | zero =>
      have e : (((0 : Nat) : Int) - 1) = -1 := by omega
      rw [e]
      have hJ2 : J (upto (backAt bs hby) bs.length) wr := by simpa using hJs
      gi_wp2
      go_end0
      exact ⟨⟨_, rfl⟩, .inl ⟨_, rfl, hJ2⟩⟩
    | succ r =>
      have e : (((r + 1 : Nat) : Int) - 1) = (r : Int) := by omega
      rw [e]
      have hrl : r < bs.length := by omega
      have hback : backAt bs hby (bs.length - (r + 1)) = ⟨(r, (byteAt bs hby r).1), (byteAt bs hby r).2⟩ := by
        have : bs.length - 1 - (bs.length - (r + 1)) = r := by omega
        simp [backAt, this]
      have hup : upto (backAt bs hby) (bs.length - r) = upto (backAt bs hby) (bs.length - (r + 1)) ++ [⟨(r, (byteAt bs hby r).1), (byteAt bs hby r).2⟩] := by
        rw [← hback, ← upto_succ]; congr 1; omega
      have hcx : wr.cell? ⟨b, off + r, none⟩ = some (.int .u8 (byteAt bs hby r).1) := hnx.cell (p := ⟨b, off + r, none⟩) hb (HC.out r _ (byteAt_get bs hby r hrl))
      obtain ⟨fn, tmps, assign, body, hy, hR⟩ := hY _ ⟨(r, (byteAt bs hby r).1), (byteAt bs hby r).2⟩ wr hJs (by rw [upto_length]; omega)
      dsimp only [encIB] at hy hR
      have HU := hide hup
      generalize byteAt bs hby r = x at *
      have r0 : (0 : Int) ≤ (r : Int) := by omega
      clear hback hup e
      gi_wp2
      refine hR.mono ?_
      rintro e W3 (⟨rfl, hJ3, hk3⟩ | ⟨rfl, hJx3⟩)
      · have hBs3 : W3.cell? ⟨Bs, 0, none⟩ = some (.slice (some ⟨b, off, none⟩) bs.length cap) := hk3.cell (p := ⟨Bs, 0, none⟩) hBn hBs2
        gi_wp2
        go_roundw
        case rel => exact ⟨r, by omega, rfl, by rw [HU.out]; exact hJ3, hnx.trans hk3⟩
        case measure => simp [intOf]
      · gi_wp2
        refine bodyPost_ret (results_none rfl _ _ _) rfl ?_
        exact ⟨⟨_, rfl⟩, .inr ⟨_, hJx3⟩⟩
set_option maxRecDepth 100000 in
set_option maxHeartbeats 1000000 in
/-- .. at no bytes: no round. -/
theorem back1_nil_in (F : Fence) (n : Nat) (h7 : F.fn 144) (hro : F.round = none) (l Bs : Nat) (A : Option Addr) (cap : Nat) (J : List IB → World → Prop) (W : World) (hBs : W.cell? ⟨Bs, 0, none⟩ = some (.slice A 0 cap)) (h0 : J [] W) :
    CallsIn F n Try.prog 144 #[.func (.yield l) #[] #[], .pointer (some ⟨Bs, 0, none⟩)] W fun e W' => (∃ v, e = .returned v) ∧ J [] W' := by
  refine callsIn_of_wp Try.func144 rfl h7 ?_ hro
  simp only [Try.ntmps144, List.size_toArray, List.length_cons, List.length_nil, Nat.reduceAdd, Nat.reduceSub, Array.replicate_succ, Array.replicate_zero, List.push_toArray, List.append_toArray, List.nil_append, List.cons_append]
  gi_wp2
  gi_loopw [3] (fun i wr => i = .int .i64 (-1) ∧ J [] wr) (fun _ _ => 0)
  case atStart => exact ⟨by simp, h0⟩
  case round =>
    obtain ⟨rfl, hJs⟩ := hrel
    gi_wp2
    go_end0
    exact ⟨⟨_, rfl⟩, hJs⟩
set_option maxHeartbeats 1000000 in
theorem back_in (F : Fence) (n : Nat) (h5 : F.fn 141) (hro : F.round = none) (a : Option Addr) (len cap : Nat) (w : World) :
    CallsIn F n Try.prog 141 #[.slice a len cap] w fun e w' => e = .returned (.func (.func 144) #[] #[.pointer (some ⟨w.heap.size, 0, none⟩)]) ∧ w' = w.alloc (.cells #[.slice a len cap] 56) := by
  refine callsIn_of_wp Try.func141 rfl h5 ?_ hro
  simp only [Try.ntmps141, List.size_toArray, List.length_cons, List.length_nil, Nat.reduceAdd, Nat.reduceSub, Array.replicate_succ, Array.replicate_zero, List.push_toArray, List.append_toArray, List.nil_append, List.cons_append]
  gi_wp2
  go_ret
  exact ⟨rfl, rfl⟩
theorem back_stops (F : Fence) (n : Nat) (h7 : F.fn 144) (hro : F.round = none) (hn : 1 ≤ n) (Bs X : Nat) (A : Option Addr) (cap : Nat) (bs : List Int) (hby : Byt bs) (hreach : bs.length ≤ 1000000000) (w : World) (hBs : Bs < w.heap.size) (hX : Bs ≠ X)
    (hc : w.cell? ⟨Bs, 0, none⟩ = some (.slice A bs.length cap)) (hI : Bys w A bs.length bs) (hA : 0 < bs.length → ∀ ad, A = some ad → ad.block ≠ X) :
    SeqStopsK F n Try.prog 144 #[.pointer (some ⟨Bs, 0, none⟩)] encIB (KpX X) (fun ys => ys = upto (backAt bs hby) bs.length) (fun _ => True) bs.length w := fun l J Jx W hW _ _ hY h0 => by
  have hc' := (hW.cell (p := ⟨Bs, 0, none⟩) hBs).trans hc
  have hI2 := hI.below hW
  by_cases hz : 0 < bs.length
  · obtain ⟨b, off, rfl, hcs⟩ := hI2.2.2 hz
    refine (back1_in F n h7 hro hn l Bs X b off cap bs hby hreach (hA hz _ rfl) J Jx hY W hX hc' hcs h0).mono ?_
    rintro e W' ⟨he, ⟨ys, rfl, hj⟩ | ⟨pre, hj⟩⟩
    · exact ⟨he, .inl ⟨_, rfl, hj⟩⟩
    · exact ⟨he, .inr ⟨_, trivial, hj⟩⟩
  · have e0 : bs.length = 0 := by omega
    rw [e0] at hc'
    refine (back1_nil_in F n h7 hro l Bs A cap J W hc' h0).mono fun e W' ⟨he, hj⟩ => ⟨he, .inl ⟨_, by rw [e0]; rfl, hj⟩⟩
/-- The number of what has come, the highest byte first. -/
def bnum : List IB → Nat
  | [] => 0
  | x :: l => x.1.2.toNat * 256 ^ l.length + bnum l
theorem bnum_lt (l : List IB) : bnum l < 256 ^ l.length := by
  induction l with
  | nil => simp [bnum]
  | cons x l ih =>
    simp only [bnum, List.length_cons, Nat.pow_succ]
    have h1 := x.2
    have h2 : x.1.2.toNat ≤ 255 := by omega
    have h3 := Nat.mul_le_mul_right (256 ^ l.length) h2
    omega
theorem bnum_snoc (l : List IB) (x : IB) : bnum (l ++ [x]) = bnum l * 256 + x.1.2.toNat := by
  induction l with
  | nil => simp [bnum]
  | cons y l ih =>
    simp only [List.cons_append, bnum, ih, List.length_append, List.length_cons, List.length_nil, Nat.pow_succ, Nat.add_mul]
    rw [Nat.mul_assoc]; omega
theorem bnum_all (bs : List Int) (h : Byt bs) : bnum (upto (backAt bs h) bs.length) = num bs := by
  have key : ∀ k, k ≤ bs.length → bnum (upto (backAt bs h) k) = num (bs.drop (bs.length - k)) := by
    intro k
    induction k with
    | zero => intro _; simp [upto, bnum, num]
    | succ k ih =>
      intro hk
      rw [upto_succ, bnum_snoc, ih (by omega)]
      have hi : bs.length - (k + 1) < bs.length := by omega
      rw [List.drop_eq_getElem_cons hi, num]
      have e1 : bs.length - (k + 1) + 1 = bs.length - k := by omega
      have e2 : bs.length - 1 - k = bs.length - (k + 1) := by omega
      have e3 := byteAt_get bs h _ hi
      rw [List.getElem?_eq_getElem hi] at e3
      injection e3 with e3
      rw [e1, e3]
      simp only [backAt, e2]
      omega
  have := key bs.length (Nat.le_refl _)
  simpa using this
theorem shl_or (n : Nat) (x : Int) (h0 : 0 ≤ x) (h1 : x ≤ 255) (hn : n < 72057594037927936) : bits .or .u64 (n * 256 : Int) x = ((n * 256 + x.toNat : Nat) : Int) := by
  have e : (n * 256 : Int) = ((n * 256 : Nat) : Int) := by omega
  obtain ⟨m, rfl⟩ : ∃ m : Nat, x = m := ⟨x.toNat, by omega⟩
  rw [e, u64_or_nat _ _ (by omega) (by omega), Int.toNat_natCast]
  congr 1
  rw [show n * 256 = n <<< 8 by rw [Nat.shiftLeft_eq], ← Nat.shiftLeft_add_eq_or_of_lt (by omega)]
set_option maxRecDepth 100000 in
set_option maxHeartbeats 2000000 in
theorem number_in (F : Fence) (n : Nat) (h3 : F.fn 132) (h5 : F.fn 141) (h7 : F.fn 144) (hro : F.round = none) (hn : 3 ≤ n) (A : Option Addr) (cap : Nat) (bs : List Int) (w : World) (hB : Bys w A bs.length bs) (hl : bs.length ≤ 8) :
    CallsIn F n Try.prog 132 #[.slice A bs.length cap] w fun e W' => e = .returned (.int .u64 (num bs)) ∧ Below w.heap.size w W' := by
  have h1 : 1 ≤ n := by omega
  refine callsIn_of_wp_marks Try.func132 rfl h3 ?_ hro
  simp only [Try.ntmps132, List.size_toArray, List.length_cons, List.length_nil, Nat.reduceAdd, Nat.reduceSub, Array.replicate_succ, Array.replicate_zero, List.push_toArray, List.append_toArray, List.nil_append, List.cons_append]
  gi_wp2_with (gi_at_call 141; refine (back_in F (n - 1) h5 hro _ _ _ _).mono ?_; rintro e w' ⟨rfl, rfl⟩)
  have bS := Boxed.new w 113 (.int .u64 0)
  have bN := Boxed.new (w.alloc (.cells #[.int .u64 0] 113)) 56 (.slice A bs.length cap)
  rw [World.size_alloc] at bN
  have hB0 : Below w.heap.size w ((w.alloc (.cells #[.int .u64 0] 113)).alloc (.cells #[.slice A bs.length cap] 56)) := ((Below.refl _ w).alloc (Nat.le_refl _) _).alloc (by simp) _
  have hby := hB.2.1
  refine wpIn_rangeFunc_ownG hro h1 (gf := 144) (lb := #[.pointer (some ⟨w.heap.size + 1, 0, none⟩)]) rfl h7 (enters_of Try.func144 (by kernel_rfl) rfl)
    (back_stops F (n - 1) h7 hro (by omega) (w.heap.size + 1) w.heap.size A cap bs hby (by omega) _ (by simp) (by omega) bN.cell (hB.below hB0) (fun h0 ad e => by have := hB.lt h0 ad e; omega)) (fun h k => h.trans k) (fun W l o o' _ h hc _ => KpX.put W l o o' h hc) (Below.refl _ _) (fun _ => rfl)
    (fun pre W => (W.cell? ⟨w.heap.size, 0, none⟩ = some (.int .u64 (bnum pre : Int)) ∧ W.frozen? ⟨w.heap.size, 0, none⟩ = false) ∧ Below w.heap.size w W)
    (fun _ _ _ => False)
    (OwnFrom.and (Own.from (fun s A B row hs hg hr => ⟨cell_kept hs.1 hg hr, (frozen_kept hs.1 hg hr).trans hs.2⟩) _) (ownFrom_below (Nat.le_refl _) (by simp; omega)))
    (fun _ _ _ _ _ hs _ _ => hs)
    ⟨⟨(bS.alloc _).cell, (bS.alloc _).frozen⟩, hB0⟩
    (fun x => { tmps := #[.slice A bs.length cap, undef, .int .u64 0, .pointer (some ⟨w.heap.size, 0, none⟩), undef, .int .u8 x.1.2, .slice A bs.length cap, .func (.func 144) #[] #[.pointer (some ⟨w.heap.size + 1, 0, none⟩)], .int .i64 (x.1.1 : Int), .int .u8 x.1.2, undef, undef, undef, undef, undef, undef], defers := [] }) ?assign ?body ?done ?stop
  case assign =>
    intro l x W K hK
    simp only [encIB]
    gi_wp2
    exact hK
  case body =>
    rintro l pre x W ⟨⟨hc, hf⟩, hB⟩ hlen
    have x0 : 0 ≤ x.1.2 := x.2.1
    have x1 : x.1.2 ≤ 255 := x.2.2
    have hu : IntKind.u64.wrap x.1.2 = x.1.2 := by rw [IntKind.wrap_u64]; omega
    have hn7 : bnum pre < 256 ^ 7 := Nat.lt_of_lt_of_le (bnum_lt pre) (Nat.pow_le_pow_right (by decide) (by omega))
    have hs := shl_or (bnum pre) x.1.2 x0 x1 (by simpa using hn7)
    gi_wp2
    refine ⟨(KeepsOthers.setCell _ _ _).from _, KpX.set _ _ _ _, ⟨?_, by rw [World.frozen?_setCell]; exact hf⟩, hB.setCell (p := ⟨w.heap.size, 0, none⟩) (Nat.le_refl _) _⟩
    have e : ((bnum pre : Nat) : Int) * 256 + max x.1.2 0 = ((bnum (pre ++ [x]) : Nat) : Int) := by rw [bnum_snoc]; omega
    rw [e]
    refine World.cell?_setCell_same' _ _ _ (by rw [hc]; rfl)
  case done =>
    rintro D ys W hD rfl ⟨⟨hc, _⟩, hB⟩ hK
    gi_wp2
    refine ⟨by simp, .inl ⟨_, _, rfl, run_takeDeferred hK, ?_⟩⟩
    exact ⟨_, results_tmp rfl _ _ _, by rw [← bnum_all bs hby]; rfl, hB.trans (belowK_b (w := w) (Nat.le_refl _) W D _ _ (by simp at hD; omega) hK rfl rfl)⟩
  case stop =>
    rintro D c pre W _ _ h _
    exact h.elim
theorem number_any (w : World) (A : Option Addr) (n cap : Nat) (bs : List Int) (hB : Bys w A n bs) (hl : n ≤ 8) :
    Calls Try.prog 132 #[.slice A n cap] w fun e w' => e = .returned (.int .u64 (num bs)) ∧ Below w.heap.size w w' := by
  have e := hB.1
  subst e
  exact (callsIn_wide (n := 3)).1 (number_in Fence.wide 3 trivial trivial trivial rfl (Nat.le_refl _) A cap bs w hB hl)
end Go.Proofs.Ytbpmcnfmgaolnaa
/-
  piece: the reader: peek, Fixed, Count, Text.
-/
namespace Go.Proofs.Ytbpmcnfmgaolnaa
open Go.RowKit

/-- A number of 64 bits. -/
def U64 (n : Int) : Prop := 0 ≤ n ∧ n < 18446744073709551616
theorem sizes (x : Int) : ((x == 253) = true ∧ Rd.sizeOf x = 2) ∨ ((x == 253) = false ∧ (x == 254) = true ∧ Rd.sizeOf x = 4) ∨
    ((x == 253) = false ∧ (x == 254) = false ∧ (x == 255) = true ∧ Rd.sizeOf x = 8) ∨ ((x == 253) = false ∧ (x == 254) = false ∧ (x == 255) = false ∧ Rd.sizeOf x = 0) := by
  by_cases h1 : x = 253
  · exact .inl ⟨by simpa using h1, by simp [Rd.sizeOf, h1]⟩
  · by_cases h2 : x = 254
    · exact .inr (.inl ⟨by simpa using h1, by simpa using h2, by simp [Rd.sizeOf, h2]⟩)
    · by_cases h3 : x = 255
      · exact .inr (.inr (.inl ⟨by simpa using h1, by simpa using h2, by simpa using h3, by simp [Rd.sizeOf, h3]⟩))
      · exact .inr (.inr (.inr ⟨by simpa using h1, by simpa using h2, by simpa using h3, by simp [Rd.sizeOf, h1, h2, h3]⟩))
def PeekPost (w : World) (p : Nat × Nat × Int) (e : Ending) (w' : World) : Prop :=
  e = .returned (.tuple #[.int .u64 (p.1 : Int), .int .i64 (p.2.1 : Int), .int .i64 p.2.2]) ∧ Below w.heap.size w w'
set_option maxHeartbeats 1000000 in
set_option maxRecDepth 100000 in
theorem peek_nil (w : World) (g : Nat) (A : Option Addr) (m c : Nat) (err : Int) (most : Int) (hb : Blk w g 164 [.slice A m c, .int .i64 err]) (hB : Bys w A m []) :
    Calls Try.prog 118 #[.pointer (some ⟨g, 0, none⟩), .int .u64 most] w (PeekPost w (Rd.peek [] most.toNat)) := by
  have c0 := hb.c0
  have m0 : m = 0 := hB.1.symm
  subst m0
  go_enter Try.func118, Try.ntmps118
  go_wp2
  go_ret3
  exact ⟨rfl, Below.refl _ _⟩
set_option maxHeartbeats 2000000 in
set_option maxRecDepth 100000 in
theorem peek_short (w : World) (g b off m c : Nat) (err x : Int) (l : List Int) (most : Int) (hb : Blk w g 164 [.slice (some ⟨b, off, none⟩) m c, .int .i64 err]) (hB : Bys w (some ⟨b, off, none⟩) m (x :: l)) (_hc : m ≤ c) (hm : m ≤ 1000000000) (_h0 : 0 ≤ most)
    (hsh : l.length < Rd.sizeOf x) :
    Calls Try.prog 118 #[.pointer (some ⟨g, 0, none⟩), .int .u64 most] w (PeekPost w (Rd.peek (x :: l) most.toNat)) := by
  have c0 := hb.c0
  have hcx := hB.2.2 (by have := hB.1; simp at this; omega)
  have cx : w.cell? ⟨b, off, none⟩ = some (.int .u8 x) := by obtain ⟨b2, o2, e, hcs⟩ := hcx; injection e with e; injection e with e1 e2; subst e1; subst e2; exact hcs 0 x rfl
  have hml : m < 1 + Rd.sizeOf x := by have := hB.1; simp at this; omega
  have m1 : (0 : Int) < (m : Int) := by have := hB.1; simp at this; omega
  have m0 : (m == 0) = false := by simp; omega
  have E : Hid (Rd.peek (x :: l) most.toNat = (0, 0, 61)) := hide (by simp [Rd.peek, hsh])
  clear hcx
  rcases sizes x with ⟨t1, hs⟩ | ⟨t1, t2, hs⟩ | ⟨t1, t2, t3, hs⟩ | ⟨t1, t2, t3, hs⟩
  case inr.inr.inr => omega
  all_goals
    rw [hs] at hml
    clear hs hsh
    go_enter Try.func118, Try.ntmps118
    go_wp2
    go_ret3
    rw [E.out]
    exact ⟨rfl, Below.refl _ _⟩
set_option maxHeartbeats 4000000 in
set_option maxRecDepth 100000 in
theorem peek_pos (w : World) (g b off m c : Nat) (err x : Int) (l : List Int) (most : Int) (hb : Blk w g 164 [.slice (some ⟨b, off, none⟩) m c, .int .i64 err]) (hB : Bys w (some ⟨b, off, none⟩) m (x :: l)) (hc : m ≤ c) (hm : m ≤ 1000000000) (h0 : 0 ≤ most)
    (hpos : 0 < Rd.sizeOf x) (hsh : ¬ l.length < Rd.sizeOf x) :
    Calls Try.prog 118 #[.pointer (some ⟨g, 0, none⟩), .int .u64 most] w (PeekPost w (Rd.peek (x :: l) most.toNat)) := by
  have c0 := hb.c0
  have hcx := hB.2.2 (by have := hB.1; simp at this; omega)
  have cx : w.cell? ⟨b, off, none⟩ = some (.int .u8 x) := by obtain ⟨b2, o2, e, hcs⟩ := hcx; injection e with e; injection e with e1 e2; subst e1; subst e2; exact hcs 0 x rfl
  have hx := hB.2.1 x (by simp)
  have x0 : 0 ≤ x := hx.1
  have x1 : x ≤ 255 := hx.2
  have hml : 1 + Rd.sizeOf x ≤ m := by have := hB.1; simp at this; omega
  have m0 : (m == 0) = false := by simp; omega
  have m1 : (0 : Int) < (m : Int) := by omega
  obtain ⟨N, hN⟩ : ∃ N : Nat, N = num (l.take (Rd.sizeOf x)) := ⟨_, rfl⟩
  have hz : ¬ Rd.sizeOf x = 0 := by omega
  have E : Hid (Rd.peek (x :: l) most.toNat = if (cnt N).length ≠ 1 + Rd.sizeOf x ∨ most.toNat < N then (0, 0, 62) else (N, 1 + Rd.sizeOf x, 0)) := hide (by simp [Rd.peek, hsh, hz, ← hN])
  have hBl : Bys w (some ⟨b, off + 1, none⟩) (Rd.sizeOf x) (l.take (Rd.sizeOf x)) := by simpa using hB.sub 1 (Rd.sizeOf x) hml
  have HN := hide hN
  have hNlt : N < 18446744073709551616 := by
    rw [hN]
    have h1 := num_lt _ hBl.2.1
    have h2 : (l.take (Rd.sizeOf x)).length ≤ 8 := by rw [hBl.1]; rcases sizes x with h | h | h | h <;> omega
    have h3 := Nat.pow_le_pow_right (show 0 < 256 by decide) h2
    have : (256 : Nat) ^ 8 = 18446744073709551616 := by decide
    omega
  have HNL : U64 N := ⟨by omega, by omega⟩
  have hcl := (cnt_length N).2
  clear hNlt hN hx hcx hpos hsh
  rcases sizes x with ⟨t1, hs⟩ | ⟨t1, t2, hs⟩ | ⟨t1, t2, t3, hs⟩ | ⟨t1, t2, t3, hs⟩
  case inr.inr.inr => exact absurd hs hz
  all_goals
    by_cases hq : (cnt N).length = 1 + Rd.sizeOf x
    · by_cases hq2 : most.toNat < N
      · rw [hs] at hml hBl E HN hq
        rw [if_pos (.inr hq2)] at E
        have q2 : most < (N : Int) := by omega
        have HQ := hide hq
        clear hs hz hq hq2
        go_enter Try.func118, Try.ntmps118
        go_wp2_with (go_at_call 132; refine (number_any w _ _ _ _ hBl (by decide)).mono ?_; rintro e w1 ⟨rfl, hb1⟩; rw [← HN.out]; have c0' := cell_under hb1 c0)
        refine (count_any w1 w1 none 0 0 [] N (Mine.nil (Below.refl _ _) none) HNL.1 HNL.2 (by decide)).mono ?_
        rintro e w2 ⟨A3, n3, c3, rfl, t3, _⟩
        have e3 := t3.len.symm
        rw [List.nil_append, Int.toNat_natCast, HQ.out] at e3
        simp only [Nat.reduceAdd] at e3
        subst e3
        go_wp2
        go_ret3
        rw [E.out]
        exact ⟨rfl, hb1.trans (t3.below.mono hb1.size)⟩
      · rw [hs] at hml hBl E HN hq
        rw [if_neg (by intro h; rcases h with h | h; exact h hq; exact hq2 h)] at E
        have q2 : (N : Int) ≤ most := by omega
        have HQ := hide hq
        clear hs hz hq hq2
        go_enter Try.func118, Try.ntmps118
        go_wp2_with (go_at_call 132; refine (number_any w _ _ _ _ hBl (by decide)).mono ?_; rintro e w1 ⟨rfl, hb1⟩; rw [← HN.out]; have c0' := cell_under hb1 c0)
        refine (count_any w1 w1 none 0 0 [] N (Mine.nil (Below.refl _ _) none) HNL.1 HNL.2 (by decide)).mono ?_
        rintro e w2 ⟨A3, n3, c3, rfl, t3, _⟩
        have e3 := t3.len.symm
        rw [List.nil_append, Int.toNat_natCast, HQ.out] at e3
        simp only [Nat.reduceAdd] at e3
        subst e3
        go_wp2
        go_ret3
        rw [E.out]
        exact ⟨rfl, hb1.trans (t3.below.mono hb1.size)⟩
    · rw [hs] at hml hBl E HN hq
      rw [if_pos (.inl hq)] at E
      have HQ := hide hq
      clear hs hz hq
      go_enter Try.func118, Try.ntmps118
      go_wp2_with (go_at_call 132; refine (number_any w _ _ _ _ hBl (by decide)).mono ?_; rintro e w1 ⟨rfl, hb1⟩; rw [← HN.out]; have c0' := cell_under hb1 c0)
      refine (count_any w1 w1 none 0 0 [] N (Mine.nil (Below.refl _ _) none) HNL.1 HNL.2 (by decide)).mono ?_
      rintro e w2 ⟨A3, n3, c3, rfl, t3, _⟩
      have e3 := t3.len.symm
      have hn3 : ¬ (n3 = _) := fun h => HQ.out (by rw [List.nil_append, Int.toNat_natCast] at e3; rw [← e3]; exact h)
      simp only [Nat.reduceAdd] at hn3
      first
        | (have q3 : ((n3 : Int) != 3) = true := by rw [bne_iff_ne]; omega)
        | (have q3 : ((n3 : Int) != 5) = true := by rw [bne_iff_ne]; omega)
        | (have q3 : ((n3 : Int) != 9) = true := by rw [bne_iff_ne]; omega)
      clear e3 hn3
      go_wp2
      go_ret3
      rw [E.out]
      exact ⟨rfl, hb1.trans (t3.below.mono hb1.size)⟩
set_option maxHeartbeats 4000000 in
set_option maxRecDepth 100000 in
theorem peek_zero (w : World) (g b off m c : Nat) (err x : Int) (l : List Int) (most : Int) (hb : Blk w g 164 [.slice (some ⟨b, off, none⟩) m c, .int .i64 err]) (hB : Bys w (some ⟨b, off, none⟩) m (x :: l)) (hc : m ≤ c) (hm : m ≤ 1000000000) (h0 : 0 ≤ most)
    (hs0 : Rd.sizeOf x = 0) :
    Calls Try.prog 118 #[.pointer (some ⟨g, 0, none⟩), .int .u64 most] w (PeekPost w (Rd.peek (x :: l) most.toNat)) := by
  have c0 := hb.c0
  have hcx := hB.2.2 (by have := hB.1; simp at this; omega)
  have cx : w.cell? ⟨b, off, none⟩ = some (.int .u8 x) := by obtain ⟨b2, o2, e, hcs⟩ := hcx; injection e with e; injection e with e1 e2; subst e1; subst e2; exact hcs 0 x rfl
  have hx := hB.2.1 x (by simp)
  have x0 : 0 ≤ x := hx.1
  have x1 : x ≤ 255 := hx.2
  have x2 : x < 253 := by
    rcases sizes x with ⟨_, h⟩ | ⟨_, _, h⟩ | ⟨_, _, _, h⟩ | ⟨t1, t2, t3, h⟩
    all_goals try omega
    simp at t1 t2 t3; omega
  have hml : 1 ≤ m := by have := hB.1; simp at this; omega
  have m0 : (m == 0) = false := by simp; omega
  have m1 : (0 : Int) < (m : Int) := by omega
  have t1 : (x == 253) = false := by simp; omega
  have t2 : (x == 254) = false := by simp; omega
  have t3 : (x == 255) = false := by simp; omega
  have hu : IntKind.u64.wrap x = x := by rw [IntKind.wrap_u64]; omega
  have hcn : cnt x.toNat = [x] := cnt1 x x0 x2
  have E : Hid (Rd.peek (x :: l) most.toNat = if most.toNat < x.toNat then (0, 0, 62) else (x.toNat, 1, 0)) := hide (by simp [Rd.peek, hs0, hcn])
  have HC := hide hcn
  clear hcx hx hs0 hcn
  by_cases hq2 : most < x
  · rw [if_pos (by omega)] at E
    go_enter Try.func118, Try.ntmps118
    go_wp2_with (go_at_call 132; refine (number_any w _ _ _ _ (Bys.nil _ _) (by decide)).mono ?_; rintro e w1 ⟨rfl, hb1⟩; have c0' := cell_under hb1 c0; have cx' := cell_under hb1 cx)
    all_goals
      refine (count_any _ _ none 0 0 [] x (Mine.nil (Below.refl _ _) none) x0 (by omega) (by decide)).mono ?_
      rintro e w2 ⟨A3, n3, c3, rfl, t3, _⟩
      have e3 := t3.len.symm
      rw [List.nil_append, HC.out] at e3
      simp only [List.length_cons, List.length_nil, Nat.zero_add] at e3
      subst e3
      go_wp2
      go_ret3
      rw [E.out]
      exact ⟨rfl, hb1.trans (t3.below.mono hb1.size)⟩
  · rw [if_neg (by omega)] at E
    have q2 : x ≤ most := by omega
    have ex : ((x.toNat : Nat) : Int) = x := by omega
    have EX := hide ex
    clear ex hq2
    go_enter Try.func118, Try.ntmps118
    go_wp2_with (go_at_call 132; refine (number_any w _ _ _ _ (Bys.nil _ _) (by decide)).mono ?_; rintro e w1 ⟨rfl, hb1⟩; have c0' := cell_under hb1 c0; have cx' := cell_under hb1 cx)
    all_goals
      refine (count_any _ _ none 0 0 [] x (Mine.nil (Below.refl _ _) none) x0 (by omega) (by decide)).mono ?_
      rintro e w2 ⟨A3, n3, c3, rfl, t3, _⟩
      have e3 := t3.len.symm
      rw [List.nil_append, HC.out] at e3
      simp only [List.length_cons, List.length_nil, Nat.zero_add] at e3
      subst e3
      go_wp2
      go_ret3
      rw [E.out]
      refine ⟨?_, hb1.trans (t3.below.mono hb1.size)⟩
      simp only [EX.out]
      rfl
theorem peek_any (w : World) (g h : Nat) (r : Rd) (most : Int) (hR : RdAt 164 w g h r) (h0 : 0 ≤ most) :
    Calls Try.prog 118 #[.pointer (some ⟨g, 0, none⟩), .int .u64 most] w (PeekPost w (Rd.peek r.rest most.toNat)) := by
  obtain ⟨rest, err⟩ := r
  obtain ⟨A, m, c, hb, hB, hc, hA, hlt, hm⟩ := hR
  cases rest with
  | nil => exact peek_nil w g A m c err most hb hB
  | cons x l =>
    have hl := hB.1
    obtain ⟨b, off, rfl, hcs⟩ := hB.2.2 (by simp at hl; omega)
    by_cases hsh : l.length < Rd.sizeOf x
    · exact peek_short w g b off m c err x l most hb hB hc hm h0 hsh
    · by_cases hz : Rd.sizeOf x = 0
      · exact peek_zero w g b off m c err x l most hb hB hc hm h0 hz
      · exact peek_pos w g b off m c err x l most hb hB hc hm h0 (by omega) hsh
end Go.Proofs.Ytbpmcnfmgaolnaa
/-
  piece: the reader: Fixed, Count, Text.
-/
namespace Go.Proofs.Ytbpmcnfmgaolnaa
open Go.RowKit

def NumPost (T : TypeId) (w : World) (g h : Nat) (r' : Rd) (n : Nat) (e : Ending) (w' : World) : Prop :=
  e = .returned (.int .u64 (n : Int)) ∧ RdAt T w' g h r' ∧ Only (fun i => i = g) w w'
/-- A slice's rest, whatever its address is. -/
theorem slice_from (A : Option Addr) (m c U : Nat) (hU : U ≤ m) (hc : m ≤ c) : ∃ A' : Option Addr, (∀ w : World, (Instr.slice 56 (.slice A m c) (some (.int .i64 (U : Int))) none none).run Try.prog w = .ok (.slice A' (m - U) (c - U)) w) ∧
    (∀ w : World, (Instr.sliceAt 56 (.slice A m c) (some (.int .i64 (U : Int))) none none).run Try.prog w = .ok (.slice A' (m - U) (c - U)) w) ∧
    (∀ (w : World) (bs : List Int), Bys w A m bs → Bys w A' (m - U) (bs.drop U)) ∧ ∀ ad', A' = some ad' → ∃ ad, A = some ad ∧ ad'.block = ad.block := by
  have hel : Try.prog.elem 56 = 5 := by kernel_rfl
  have hu : Try.prog.underlying 56 = some (.slice (Try.prog.elem 56)) := by rw [hel]; exact Try.underlying56
  have hsz : (Try.prog.info? 5).map (·.size) = some 1 := by kernel_rfl
  have h1 : ∀ w : World, (Instr.slice 56 (.slice A m c) (some (.int .i64 (U : Int))) none none).run Try.prog w = .ok (.slice (if c = U then A else A.map (·.add U)) (m - U) (c - U)) w := fun w => by
    rw [run_slice_l w _ A m c hu .i64 U (by omega) (by omega), hel, run_size hsz w]
    by_cases h : c = U
    · simp [Result.andThen, sliced, h]
    · simp [Result.andThen, sliced, h]
  refine ⟨if c = U then A else A.map (·.add U), h1, fun w => ?_, fun w bs hB => ?_, fun ad' h => ?_⟩
  · rw [run_sliceAt_slice w _ _ _ _ _ hu]; exact h1 w
  · by_cases h : c = U
    · rw [if_pos h]
      exact Bys.zero _ _ _ (by rw [List.length_drop, hB.1]) (by omega)
    · rw [if_neg h]
      cases A with
      | none =>
        have : m = 0 := by
          rcases Nat.eq_zero_or_pos m with h0 | h0
          · exact h0
          · obtain ⟨_, _, e, _⟩ := hB.2.2 h0; cases e
        exact Bys.zero _ _ _ (by rw [List.length_drop, hB.1]) (by omega)
      | some a =>
        rcases Nat.eq_zero_or_pos m with h0 | h0
        · exact Bys.zero _ _ _ (by rw [List.length_drop, hB.1]) (by omega)
        · obtain ⟨b, off, e, _⟩ := hB.2.2 h0
          injection e with e
          subst e
          have := hB.from_ U hU
          have e2 : (some ⟨b, off, none⟩ : Option Addr).map (fun x => x.add U) = some ⟨b, off + U, none⟩ := by simp only [Option.map_some, Addr.add_mid]
          rw [e2]; exact this
  · by_cases h2 : c = U
    · rw [if_pos h2] at h; exact ⟨ad', h, rfl⟩
    · rw [if_neg h2] at h
      cases A with
      | none => cases h
      | some a =>
        injection h with h
        refine ⟨a, rfl, ?_⟩
        rw [← h]
        show (a.add U).block = a.block
        unfold Addr.add
        repeat' split
        all_goals rfl
theorem raw_length (r : Rd) (k : Int) (m : Nat) (h : k ≤ m) : (r.raw k).1.length ≤ m := by
  unfold Rd.raw
  split
  · simp
  · split
    · simp
    · simp only [List.length_take]; omega
theorem peek_used (b : List Int) (most : Nat) : (Rd.peek b most).2.1 ≤ b.length := by
  unfold Rd.peek
  split
  · simp
  · dsimp only
    repeat' split
    all_goals (try simp)
    all_goals omega
theorem peek_zero_or (b : List Int) (most : Nat) (h : (Rd.peek b most).2.2 ≠ 0) : (Rd.peek b most).1 = 0 ∧ (Rd.peek b most).2.1 = 0 := by
  unfold Rd.peek at h ⊢
  split at h
  · simp
  · dsimp only at h ⊢
    repeat' split at h
    all_goals (try (simp at h; done))
    all_goals (try simp_all)
    all_goals (repeat' split)
    all_goals simp
theorem peek_most (b : List Int) (most : Nat) : (Rd.peek b most).1 ≤ most := by
  unfold Rd.peek
  split
  · simp
  · dsimp only
    repeat' split
    all_goals (try simp)
    all_goals (rename_i h; simp at h; omega)
set_option maxHeartbeats 1000000 in
set_option maxRecDepth 100000 in
theorem RFixed_any (w : World) (g h : Nat) (r : Rd) (n : Int) (hR : RdAt 164 w g h r) :
    Calls Try.prog 90 #[.pointer (some ⟨g, 0, none⟩), .int .i64 n] w (NumPost 164 w g h (r.fixed n).2 (r.fixed n).1) := by
  have hl := raw_length r (Rd.within n) 8 (within_range n).2
  go_enter Try.func90, Try.ntmps90
  go_wp2_with (go_at_call 130; refine (within_any _ _).mono ?_; rintro e w1 ⟨rfl, rfl⟩)
  refine (Raw_any w g h r _ hR).mono ?_
  rintro e w1 ⟨A, m, c, rfl, hB, _, hf, hR1, ho⟩
  have hm := hB.1
  have hm8 : m ≤ 8 := by omega
  clear hm hl
  go_wp2_with fail
  refine (number_any w1 A m c _ hB hm8).mono ?_
  rintro e w2 ⟨rfl, hb⟩
  go_wp2
  go_ret
  exact ⟨rfl, hR1.below hb, ho.trans (Only.of_below hb (fun _ => False)) (fun _ _ h => h.elim)⟩
set_option maxHeartbeats 1000000 in
set_option maxRecDepth 100000 in
theorem RCount_any (w : World) (g h : Nat) (r : Rd) (most : Int) (hR : RdAt 164 w g h r) (h0 : 0 ≤ most) :
    Calls Try.prog 77 #[.pointer (some ⟨g, 0, none⟩), .int .u64 most] w (NumPost 164 w g h (r.count most.toNat).2 (r.count most.toNat).1) := by
  have hR0 := hR
  obtain ⟨rest, err⟩ := r
  obtain ⟨A, m, c, hb, hB, hc, hA, hlt, hm⟩ := hR
  have c1 := hb.c1
  by_cases he : err = 0
  · subst he
    have E : Hid (Rd.count ⟨rest, 0⟩ most.toNat = ((Rd.peek rest most.toNat).1, ⟨rest.drop (Rd.peek rest most.toNat).2.1, (Rd.peek rest most.toNat).2.2⟩)) := hide (by simp [Rd.count])
    have hu := peek_used rest most.toNat
    have hp := peek_any w g h ⟨rest, 0⟩ most hR0 h0
    simp only at hp
    rw [hB.1] at hu
    generalize Rd.peek rest most.toNat = p at *
    obtain ⟨N, U, X⟩ := p
    simp only at hu E
    have HA := hide hA
    obtain ⟨A', hs1, hs2, hBA, hAA⟩ := slice_from A m c U hu hc
    have HAA := hide hAA
    have HBA := hide hBA
    clear hA hAA hBA
    go_enter Try.func77, Try.ntmps77
    go_wp2_with (go_at_call 118; refine hp.mono ?_; rintro e w1 ⟨rfl, hb1⟩; have b1 := hb.under hb1; have c0' := b1.c0; have f0' := b1.frozen 0; have f1' := b1.frozen 1; have c1' := b1.c1)
    go_ret
    rw [E.out]
    have bX : Blk (w1.setCell ⟨g, 1, none⟩ (.int .i64 X)) g 164 [.slice A m c, .int .i64 X] := by simpa using b1.set_ 1 (.int .i64 X)
    have hne : 0 < m - U → (∀ ad, A' = some ad → ad.block = h) ∧ g ≠ h := fun h0 => ⟨fun ad e => by
      obtain ⟨a, ea, eb⟩ := HAA.out ad e
      rw [eb]; exact (HA.out (by omega)).1 a ea, (HA.out (by omega)).2⟩
    have hB2 : Bys (w1.setCell ⟨g, 1, none⟩ (.int .i64 X)) A' (m - U) (rest.drop U) :=
      ((HBA.out w rest hB).below hb1).keep (Only.cell1 _ _ _ _) (fun h0 ad e hg => (hne h0).2 (by rw [← (hne h0).1 ad e]; exact hg.symm))
    refine ⟨rfl, RdAt.turn bX hB2 (by omega) hne (by have := hb1.size; simp [World.setCell]; omega) (by omega), ?_⟩
    exact ((Only.of_below hb1 (fun i => i = g)).trans (Only.cell1 _ g _ _) (fun _ _ h => h)).trans (Only.cell1 _ g _ _) (fun _ _ h => h)
  · have E : Hid (Rd.count ⟨rest, err⟩ most.toNat = (0, ⟨rest, err⟩)) := hide (by simp [Rd.count, he])
    have he' : (err != 0) = true := by simpa using he
    go_enter Try.func77, Try.ntmps77
    go_wp2
    go_ret
    rw [E.out]
    exact ⟨rfl, hR0, Only.refl _ _⟩
/-- A text that is read is what is read raw behind its length. -/
theorem text_raw (r : Rd) (most : Int) (he : r.err = 0) (hp : (Rd.peek r.rest (max most 0).toNat).2.2 = 0) (hl : ¬ r.rest.length - (Rd.peek r.rest (max most 0).toNat).2.1 < (Rd.peek r.rest (max most 0).toNat).1) :
    r.text most = Rd.raw ⟨r.rest.drop (Rd.peek r.rest (max most 0).toNat).2.1, 0⟩ ((Rd.peek r.rest (max most 0).toNat).1 : Int) := by
  unfold Rd.text Rd.raw
  simp only [he, hp, ne_eq, not_true_eq_false, if_false, false_or, hl]
  generalize Rd.peek r.rest (max most 0).toNat = p at *
  by_cases h0 : p.1 = 0
  · simp [h0]
  · have h1 : ¬ ((p.1 : Int) < 1) := by omega
    have h2 : ¬ (((r.rest.drop p.2.1).length : Int) < (p.1 : Int)) := by simp; omega
    rw [if_neg h1, if_neg h2, Int.toNat_natCast]
theorem text_cases (rest : List Int) (most : Int) (M : Nat) (hM : (max most 0).toNat = M) (N U : Nat) (X : Int) (hp : Rd.peek rest M = (N, U, X)) :
    (X ≠ 0 → Rd.text ⟨rest, 0⟩ most = ([], ⟨rest, X⟩)) ∧ (X = 0 → rest.length - U < N → Rd.text ⟨rest, 0⟩ most = ([], ⟨rest, 61⟩)) ∧
    (X = 0 → ¬ rest.length - U < N → Rd.text ⟨rest, 0⟩ most = Rd.raw ⟨rest.drop U, 0⟩ (N : Int)) := by
  refine ⟨fun h => ?_, fun h h2 => ?_, fun h h2 => ?_⟩
  · unfold Rd.text; simp only [hM, hp, ne_eq, not_true_eq_false, if_false, h, not_false_eq_true, if_true]
  · unfold Rd.text; simp only [hM, hp, ne_eq, not_true_eq_false, if_false, h, h2, if_true]
  · have := text_raw ⟨rest, 0⟩ most rfl
    simp only [hM, hp] at this
    exact this h h2
set_option maxHeartbeats 2000000 in
set_option maxRecDepth 100000 in
theorem RText_f (w : World) (g h : Nat) (r : Rd) (most : Int) (hR : RdAt 164 w g h r) (hmost : most < 9223372036854775808) :
    Calls Try.prog 92 #[.pointer (some ⟨g, 0, none⟩), .int .i64 most] w (RawF 164 w g h (r.text most).2 (r.text most).1) := by
  have hR0 := hR
  obtain ⟨rest, err⟩ := r
  obtain ⟨A, m, c, hb, hB, hc, hA, hlt, hm⟩ := hR
  have c1 := hb.c1
  by_cases he : err = 0
  · subst he
    obtain ⟨M, hM, hw⟩ : ∃ M : Int, 0 ≤ M ∧ ((0 ≤ most ∧ M = most) ∨ (most < 0 ∧ M = 0)) := by
      by_cases h : 0 ≤ most
      · exact ⟨most, h, .inl ⟨h, rfl⟩⟩
      · exact ⟨0, by omega, .inr ⟨by omega, rfl⟩⟩
    have hu := peek_used rest M.toNat
    have hp := peek_any w g h ⟨rest, 0⟩ M hR0 hM
    obtain ⟨N, U, X, hpe⟩ : ∃ N U X, Rd.peek rest M.toNat = (N, U, X) := ⟨_, _, _, rfl⟩
    have htc := text_cases rest most M.toNat (by congr 1; omega) N U X hpe
    have hmx : IntKind.u64.wrap M = M := by rw [IntKind.wrap_u64]; omega
    simp only [hpe] at hp hu
    rw [hB.1] at hu htc
    have HA := hide hA
    obtain ⟨A', hs1, hs2, hBA, hAA⟩ := slice_from A m c U hu hc
    have HAA := hide hAA
    have HBA := hide hBA
    have HTC := hide htc
    clear hA hAA hBA htc hpe
    rcases hw with ⟨hw1, rfl⟩ | ⟨hw1, rfl⟩
    all_goals
      by_cases hX : X = 0
      · subst hX
        by_cases hN : m - U < N
        · have E := hide (HTC.out.2.1 rfl hN)
          have hgt : ((m : Int) - (U : Int)) < (N : Int) := by omega
          have hwr : IntKind.u64.wrap ((m : Int) - (U : Int)) = (m : Int) - (U : Int) := by rw [IntKind.wrap_u64]; omega
          have hd : decide ((m : Int) - (U : Int) < (N : Int)) = true := by simp; omega
          clear hs1 hs2 HTC hN
          go_enter Try.func92, Try.ntmps92
          go_wp2_with (go_at_call 118; refine hp.mono ?_; rintro e w1 ⟨rfl, hb1⟩; have b1 := hb.under hb1; have c0' := b1.c0; have f0' := b1.frozen 0; have f1' := b1.frozen 1; have c1' := b1.c1)
          go_ret
          rw [E.out]
          exact ⟨none, 0, 0, rfl, Bys.nil _ _, Nat.le_refl _, Fr.none _, RdAt.fail b1 (hB.below hb1) hc HA.out (Nat.lt_of_lt_of_le hlt hb1.size) hm, (Only.of_below hb1 (fun i => i = g)).trans (Only.cell1 _ g _ _) (fun _ _ h => h), Free.zero _ _⟩
        · have E := hide (HTC.out.2.2 rfl hN)
          have hgt : (N : Int) ≤ (m : Int) - (U : Int) := by omega
          have hwr : IntKind.u64.wrap ((m : Int) - (U : Int)) = (m : Int) - (U : Int) := by rw [IntKind.wrap_u64]; omega
          have hwi : IntKind.i64.wrap (N : Int) = (N : Int) := by rw [IntKind.wrap_i64]; omega
          have hd : decide ((m : Int) - (U : Int) < (N : Int)) = false := by simp; omega
          clear HTC hN
          go_enter Try.func92, Try.ntmps92
          go_wp2_with (go_at_call 118; refine hp.mono ?_; rintro e w1 ⟨rfl, hb1⟩; have b1 := hb.under hb1; have c0' := b1.c0; have f0' := b1.frozen 0; have f1' := b1.frozen 1; have c1' := b1.c1)
          have hne : 0 < m - U → (∀ ad, A' = some ad → ad.block = h) ∧ g ≠ h := fun h0 => ⟨fun ad e => by
            obtain ⟨a, ea, eb⟩ := HAA.out ad e
            rw [eb]; exact (HA.out (by omega)).1 a ea, (HA.out (by omega)).2⟩
          have hR2 := RdAt.turn b1 ((HBA.out w rest hB).below hb1) (show m - U ≤ c - U by omega) hne (Nat.lt_of_lt_of_le hlt hb1.size) (by omega)
          refine (Raw_f _ g h ⟨rest.drop U, 0⟩ (N : Int) hR2).mono ?_
          rintro e w3 ⟨A4, n4, c4, rfl, hB4, hc4, hf4, hR4, ho4, ff4⟩
          have HR4 := hide hR4
          have HO4 := hide ho4
          clear hR4 ho4 hs1 hs2
          go_wp2
          go_ret
          rw [E.out]
          refine ⟨A4, n4, c4, rfl, hB4, hc4, fun ad e => ?_, HR4.out, ((Only.of_below hb1 (fun i => i = g)).trans (Only.cell1 _ g _ _) (fun _ _ h => h)).trans HO4.out (fun _ _ h => h), ff4⟩
          have h1 := hf4 ad e
          have h2 := hb1.size
          simp [World.setCell] at h1
          omega
      · have E := hide (HTC.out.1 hX)
        have hX1 : (X == 0) = false := by simpa using hX
        have hX2 : (X != 0) = true := by simpa using hX
        clear hs1 hs2 HTC hX
        go_enter Try.func92, Try.ntmps92
        go_wp2_with (go_at_call 118; refine hp.mono ?_; rintro e w1 ⟨rfl, hb1⟩; have b1 := hb.under hb1; have c0' := b1.c0; have f0' := b1.frozen 0; have f1' := b1.frozen 1; have c1' := b1.c1)
        go_ret
        rw [E.out]
        exact ⟨none, 0, 0, rfl, Bys.nil _ _, Nat.le_refl _, Fr.none _, RdAt.fail b1 (hB.below hb1) hc HA.out (Nat.lt_of_lt_of_le hlt hb1.size) hm, (Only.of_below hb1 (fun i => i = g)).trans (Only.cell1 _ g _ _) (fun _ _ h => h), Free.zero _ _⟩
  · have E : Hid (Rd.text ⟨rest, err⟩ most = ([], ⟨rest, err⟩)) := hide (by simp [Rd.text, he])
    have he' : (err != 0) = true := by simpa using he
    go_enter Try.func92, Try.ntmps92
    go_wp2
    go_ret
    rw [E.out]
    exact ⟨none, 0, 0, rfl, Bys.nil _ _, Nat.le_refl _, Fr.none _, hR0, Only.refl _ _, Free.zero _ _⟩
theorem RText_any (w : World) (g h : Nat) (r : Rd) (most : Int) (hR : RdAt 164 w g h r) (hmost : most < 9223372036854775808) :
    Calls Try.prog 92 #[.pointer (some ⟨g, 0, none⟩), .int .i64 most] w (RawPost 164 w g h (r.text most).2 (r.text most).1) :=
  (RText_f w g h r most hR hmost).mono fun _ _ h9 => h9.post
end Go.Proofs.Ytbpmcnfmgaolnaa

/-
  piece: the small functions: slices.Clone, within, fixed, count, Fixed, Count, Text.
-/
import Derived.Test.YtfloclamdpageaaProg
import Derived.Test.YtfloclamdpageaaPure06
import Derived.Lib.SliceRun
namespace Go.Proofs.Ytfloclamdpageaa
open Go.RowKit

theorem u8_info : ∃ i z, Try.prog.info? 5 = some i ∧ i.zero = some z ∧ i.size = 1 ∧ i.bytes = 1 ∧ z.cells.size = 1 := by
  have h : (Try.prog.info? 5).map (fun i => (i.size, i.bytes, i.zero.map (fun z => z.cells.size))) = some (1, 1, some 1) := by kernel_rfl
  cases hq : Try.prog.info? 5 with
  | none => simp [hq] at h
  | some i =>
    cases hz : i.zero with
    | none => simp [hq, hz] at h
    | some z =>
      simp [hq, hz] at h
      exact ⟨i, z, rfl, hz, h.1, h.2.1, h.2.2⟩
/-- An append to bytes of one's own, at this program's types. -/
theorem wpList_app {w : World} {ops : Array Oper} {rest : List Oper} {o : Oper} {a : Act} {Q : Exit → Act → World → Prop} (hgd : o.guard = none) (s x : Operand)
    (ho : o.op = .call { callee := .builtin .append, args := #[s, x], argTypes := #[22, 22] })
    (w0 : World) (A : Option Addr) (n c : Nat) (bs : List Int) (hs : a.eval s = .slice A n c) (h : Mine 5 w0 w A n c bs) (B : Option Addr) (m c' : Nat) (cs : List Int) (hx : a.eval x = .slice B m c') (hB : Bys w B m cs) (hlen : n + m ≤ 140737488355328)
    (hK : ∀ A' n' c' w', Mine 5 w0 w' A' n' c' (bs ++ cs) → FrStep w0 A m A' → wpList Try.prog ops Q rest (a.put o.dst (.slice A' n' c')) w') : wpList Try.prog ops Q (o :: rest) a w := by
  obtain ⟨i, z, hi, hz, hs1, hby, hzs⟩ := u8_info
  exact wpList_mine hgd s x 22 ho 5 i z Try.underlying22 hi hz hs1 hby hzs w0 A n c bs hs h B m c' cs hx hB hlen hK

theorem eql_nil24 (w : World) (a : Option Addr) (n c n' c' : Nat) : (binOp .eql 22 (.slice a n c) (.slice none n' c')).run Try.prog w = .ok (.bool a.isNone) w :=
  Lib.run_eql_slice_nil w _ _ a n c n' c' Try.underlying22
set_option maxHeartbeats 400000 in
set_option maxRecDepth 100000 in
theorem clone_any (w0 w : World) (A : Option Addr) (n c : Nat) (bs : List Int) (hb : Below w0.heap.size w0 w) (hB : Bys w A n bs) (hn : n ≤ 140737488355328) :
    Calls Try.prog 68 #[.slice A n c] w (MinePost 5 w0 none bs) := by
  have HN := hide hn
  clear hn
  have q24 := eql_nil24
  cases A with
  | none =>
    have hb0 : bs = [] := by
      rcases Nat.eq_zero_or_pos n with h1 | h1
      · exact List.eq_nil_of_length_eq_zero (by rw [hB.1]; exact h1)
      · obtain ⟨_, _, h2, _⟩ := hB.2.2 h1; cases h2
    subst hb0
    have h0 : n = 0 := hB.1.symm
    subst h0
    go_enter Try.func68, Try.ntmps68
    go_wp2
    go_ret
    exact MinePost.mk (Mine.nil hb _) (Fr.none _)
  | some a =>
    go_enter Try.func68, Try.ntmps68
    go_wp2_with (at_builtin; refine wpList_app rfl _ _ rfl w0 _ 0 0 [] (by rfl) (Mine.nil (hb.trans (((Below.refl _ w).alloc (Nat.le_refl _) _).mono hb.size)) _) (some a) n c bs (by rfl) (hB.alloc _) (by have := HN.out; omega) ?_; intro A' n' c' w' h1 f1)
    go_wp2
    go_ret
    exact MinePost.mk h1 (f1 (.inl (Fr.new w w0 hb.size 0)))
set_option maxHeartbeats 400000 in
theorem within_any (w : World) (n : Int) : Calls Try.prog 85 #[.int .i64 n] w fun e w' => e = .returned (.int .i64 (Rd.within n)) ∧ w = w' := by
  go_enter Try.func85, Try.ntmps85
  go_wp2
  all_goals
    go_ret
    refine ⟨?_, rfl⟩
    show Ending.returned (.int .i64 _) = _
    congr 2
    unfold Rd.within
    omega
theorem u8_wrap (m : Int) : IntKind.u8.wrap m = m % 256 := by unfold IntKind.wrap; rfl
set_option maxHeartbeats 1000000 in
set_option maxRecDepth 100000 in
theorem fixed_any (w0 w : World) (A : Option Addr) (l c : Nat) (bs : List Int) (n k : Int) (hM : Mine 5 w0 w A l c bs) (hn : 0 ≤ n) (hn2 : n < 18446744073709551616) (h0 : 0 ≤ k) (h8 : k ≤ 8) (hl : l ≤ 100000000000) :
    Calls Try.prog 87 #[.slice A l c, .int .u64 n, .int .i64 k] w (MinePost 5 w0 A (bs ++ dig n.toNat k.toNat)) := by
  obtain ⟨k, rfl⟩ : ∃ kk : Nat, k = kk := ⟨k.toNat, by omega⟩
  obtain ⟨n, rfl⟩ : ∃ kk : Nat, n = kk := ⟨n.toNat, by omega⟩
  have HN2 := hide hn2
  clear hn2
  have hL := hide hM.len
  go_enter Try.func87, Try.ntmps87
  go_wp2
  go_loopw [0, 1, 8] (fun b m t wr => ∃ (j mm : Nat) (A' : Option Addr) (l' c' : Nat), j ≤ k ∧ b = .slice A' l' c' ∧ mm = n / 256 ^ j ∧ m = .int .u64 (mm : Int) ∧ t = .int .i64 j ∧ Mine 5 w0 wr A' l' c' (bs ++ dig n j) ∧ (Fr w0 A → Fr w0 A')) (fun _ _ t _ => k - (intOf t).toNat)
  case atStart => exact ⟨0, n, A, l, c, by omega, rfl, by simp, rfl, rfl, by simpa [dig] using hM, id⟩
  case round =>
    obtain ⟨j, m, A', l', c', hj, rfl, hm, rfl, rfl, ht, hf⟩ := hrel
    have HF := hide hf
    clear hf
    have HM := hide hm
    have m0 : (0 : Int) ≤ (m : Int) := by omega
    have hl' : l' = l + j := by rw [← ht.len, List.length_append, dig_length, hL.out]
    have HL := hide hl'
    clear hm hl'
    by_cases hlt : j < k
    · have hw := u8_wrap (m : Int)
      have b1 := Bys.one wr 5 ((m : Int) % 256) (by omega) (by omega)
      go_wp2_with (at_builtin; refine wpList_app rfl _ _ rfl w0 A' l' c' (bs ++ dig n j) (by rfl) (ht.alloc _) (some ⟨wr.heap.size, 0, none⟩) 1 1 [(m : Int) % 256] (by rfl) b1 (by rw [HL.out]; omega) ?_; intro A2 n2 c2 w2 t2 f2)
      go_wp2
      refine ⟨⟨j + 1, m / 256, A2, n2, c2, by omega, rfl, ?_, by simp, by simp, ?_, fun h => f2 (.inl (HF.out h))⟩, by simp [intOf]; omega⟩
      · rw [HM.out, Nat.div_div_eq_div_mul, Nat.pow_succ]
      · have e : ((m : Int) % 256) = ((n / 256 ^ j % 256 : Nat) : Int) := by rw [← HM.out]; omega
        rw [dig_snoc, ← List.append_assoc, ← e]
        exact t2
    · obtain rfl : j = k := by omega
      go_wp2
      go_ret
      exact ⟨A', l', c', rfl, by simpa using ht, HF.out⟩
end Go.Proofs.Ytfloclamdpageaa

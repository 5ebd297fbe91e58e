/- Lemmas and walks for TableRuns, packed. -/
import Derived.Test.YtjnpkcabkccaoaaGreatQ1
import Derived.Test.YtjnpkcabkccaoaaGreatProg
import Derived.Lib.SliceRun
set_option maxRecDepth 100000
set_option maxHeartbeats 16000000
namespace Go.Proofs.YtjnpkcabkccaoaaGreat
open Go.RowKit
def dig (n k : Nat) : List Int := (List.range k).map fun i => ((n / 256 ^ i % 256 : Nat) : Int)
theorem dig_length (n k : Nat) : (dig n k).length = k := by simp [dig]
theorem dig_snoc (n k : Nat) : dig n (k + 1) = dig n k ++ [((n / 256 ^ k % 256 : Nat) : Int)] := by simp [dig, List.range_succ]
theorem dig_byt (n k : Nat) : Byt (dig n k) := by
 intro x hx
 simp only [dig, List.mem_map] at hx
 obtain ⟨i, _, rfl⟩ := hx
 omega
def cnt (n : Nat) : List Int :=
 if n < 253 then [(n : Int)] else if n < 65536 then 253 :: dig n 2 else if n < 4294967296 then 254 :: dig n 4 else 255 :: dig n 8
theorem cnt_byt (n : Nat) : Byt (cnt n) := by
 unfold cnt
 split
 ·intro x hx; simp at hx; omega
 all_goals (try split)
 all_goals (try split)
 all_goals
  intro x hx
  rcases List.mem_cons.1 hx with h | h
  ·omega
  ·exact dig_byt _ _ x h
theorem cnt_length (n : Nat) : 1 ≤ (cnt n).length ∧ (cnt n).length ≤ 9 := by
 unfold cnt
 repeat' split
 all_goals simp [dig_length]
def txt (b : List Int) : List Int := cnt b.length ++ b
def num : List Int → Nat
 | [] => 0
 | x :: l => x.toNat + 256 * num l
theorem num_lt (l : List Int) (h : Byt l) : num l < 256 ^ l.length := by
 induction l with
 | nil => simp [num]
 | cons x l ih =>
  have h1 := ih (fun y hy => h y (by simp [hy]))
  have h2 := h x (by simp)
  simp only [num, List.length_cons, Nat.pow_succ]
  omega
theorem num_append (a b : List Int) : num (a ++ b) = num a + 256 ^ a.length * num b := by
 induction a with
 | nil => simp [num]
 | cons x a ih =>
  simp only [List.cons_append, num, ih, List.length_cons, Nat.pow_succ, Nat.mul_add]
  rw [Nat.mul_comm (256 ^ a.length) 256, Nat.mul_assoc, Nat.add_assoc]
theorem num_dig (n k : Nat) : num (dig n k) = n % 256 ^ k := by
 induction k with
 | zero => simp [dig, num, Nat.mod_one]
 | succ k ih =>
  rw [dig_snoc, num_append, ih, dig_length]
  simp only [num, Int.toNat_natCast, Nat.mul_zero, Nat.add_zero]
  rw [Nat.pow_succ, Nat.mod_mul]
structure Rd where
 rest : List Int
 err : Int
namespace Rd
def raw (r : Rd) (n : Int) : List Int × Rd :=
 if r.err ≠ 0 ∨ n < 1 then ([], r) else if (r.rest.length : Int) < n then ([], { r with err := 61 }) else (r.rest.take n.toNat, { r with rest := r.rest.drop n.toNat })
def within (n : Int) : Int := max 0 (min n 8)
def fixed (r : Rd) (n : Int) : Nat × Rd := (num (r.raw (within n)).1, (r.raw (within n)).2)
def sizeOf (x : Int) : Nat := if x = 253 then 2 else if x = 254 then 4 else if x = 255 then 8 else 0
def peek (b : List Int) (most : Nat) : Nat × Nat × Int :=
 match b with
 | [] => (0, 0, 61)
 | x :: l =>
  if l.length < sizeOf x then (0, 0, 61)
  else
   let n := if sizeOf x = 0 then x.toNat else num (l.take (sizeOf x))
   if (cnt n).length ≠ 1 + sizeOf x ∨ most < n then (0, 0, 62) else (n, 1 + sizeOf x, 0)
def count (r : Rd) (most : Nat) : Nat × Rd :=
 if r.err ≠ 0 then (0, r) else ((peek r.rest most).1, { rest := r.rest.drop (peek r.rest most).2.1, err := (peek r.rest most).2.2 })
def text (r : Rd) (most : Int) : List Int × Rd :=
 if r.err ≠ 0 then ([], r)
 else if (peek r.rest (max most 0).toNat).2.2 ≠ 0 then ([], { r with err := (peek r.rest (max most 0).toNat).2.2 })
 else if r.rest.length - (peek r.rest (max most 0).toNat).2.1 < (peek r.rest (max most 0).toNat).1 then ([], { r with err := 61 })
 else ((r.rest.drop (peek r.rest (max most 0).toNat).2.1).take (peek r.rest (max most 0).toNat).1, { r with rest := (r.rest.drop (peek r.rest (max most 0).toNat).2.1).drop (peek r.rest (max most 0).toNat).1 })
end Rd
theorem u8_info : ∃ i z, Tryz.prog.info? 5 = some i ∧ i.zero = some z ∧ i.size = 1 ∧ i.bytes = 1 ∧ z.cells.size = 1 := by
 have h : (Tryz.prog.info? 5).map (fun i => (i.size, i.bytes, i.zero.map (fun z => z.cells.size))) = some (1, 1, some 1) := by kernel_rfl
 cases hq : Tryz.prog.info? 5 with
 | none => simp [hq] at h
 | some i =>
  cases hz : i.zero with
  | none => simp [hq, hz] at h
  | some z =>
   simp [hq, hz] at h
   exact ⟨i, z, rfl, hz, h.1, h.2.1, h.2.2⟩
theorem wpList_app {w : World} {ops : Array Oper} {rest : List Oper} {o : Oper} {a : Act} {Q : Exit → Act → World → Prop} (hgd : o.guard = none) (s x : Operand)
  (ho : o.op = .call { callee := .builtin .append, args := #[s, x], argTypes := #[23, 23] })
  (w0 : World) (A : Option Addr) (n c : Nat) (bs : List Int) (hs : a.eval s = .slice A n c) (h : Mine 5 w0 w A n c bs) (B : Option Addr) (m c' : Nat) (cs : List Int) (hx : a.eval x = .slice B m c') (hB : Bys w B m cs) (hlen : n + m ≤ 140737488355328)
  (hK : ∀ A' n' c' w', Mine 5 w0 w' A' n' c' (bs ++ cs) → FrStep w0 A m A' → wpList Tryz.prog ops Q rest (a.put o.dst (.slice A' n' c')) w') : wpList Tryz.prog ops Q (o :: rest) a w := by
 obtain ⟨i, z, hi, hz, hs1, hby, hzs⟩ := u8_info
 exact wpList_mine hgd s x 23 ho 5 i z Tryz.underlying23 hi hz hs1 hby hzs w0 A n c bs hs h B m c' cs hx hB hlen hK

theorem eql_nil24 (w : World) (a : Option Addr) (n c n' c' : Nat) : (binOp .eql 23 (.slice a n c) (.slice none n' c')).run Tryz.prog w = .ok (.bool a.isNone) w :=
 Lib.run_eql_slice_nil w _ _ a n c n' c' Tryz.underlying23
theorem clone_any (w0 w : World) (A : Option Addr) (n c : Nat) (bs : List Int) (hb : Below w0.heap.size w0 w) (hB : Bys w A n bs) (hn : n ≤ 140737488355328) :
  Calls Tryz.prog 39 #[.slice A n c] w (MinePost 5 w0 none bs) := by
 have HN := hide hn
 clear hn
 have q24 := eql_nil24
 cases A with
 | none =>
  have hb0 : bs = [] := by
   rcases Nat.eq_zero_or_pos n with h1 | h1
   ·exact List.eq_nil_of_length_eq_zero (by rw [hB.1]; exact h1)
   ·obtain ⟨_, _, h2, _⟩ := hB.2.2 h1; cases h2
  subst hb0
  have h0 : n = 0 := hB.1.symm
  subst h0
  go_enter Tryz.func39, Tryz.ntmps39
  go_wp2
  go_ret
  exact MinePost.mk (Mine.nil hb _) (Fr.none _)
 | some a =>
  go_enter Tryz.func39, Tryz.ntmps39
  go_wp2_with (at_builtin; refine wpList_app rfl _ _ rfl w0 _ 0 0 [] (by rfl) (Mine.nil (hb.trans (((Below.refl _ w).alloc (Nat.le_refl _) _).mono hb.size)) _) (some a) n c bs (by rfl) (hB.alloc _) (by have := HN.out; omega) ?_; intro A' n' c' w' h1 f1)
  go_wp2
  go_ret
  exact MinePost.mk h1 (f1 (.inl (Fr.new w w0 hb.size 0)))
theorem within_any (w : World) (n : Int) : Calls Tryz.prog 116 #[.int .i64 n] w fun e w' => e = .returned (.int .i64 (Rd.within n)) ∧ w = w' := by
 go_enter Tryz.func116, Tryz.ntmps116
 go_wp2
 all_goals
  go_ret
  refine ⟨?_, rfl⟩
  show Ending.returned (.int .i64 _) = _
  congr 2
  unfold Rd.within
  omega
theorem u8_wrap (m : Int) : IntKind.u8.wrap m = m % 256 := by unfold IntKind.wrap; rfl
theorem fixed_any (w0 w : World) (A : Option Addr) (l c : Nat) (bs : List Int) (n k : Int) (hM : Mine 5 w0 w A l c bs) (hn : 0 ≤ n) (hn2 : n < 18446744073709551616) (h0 : 0 ≤ k) (h8 : k ≤ 8) (hl : l ≤ 100000000000) :
  Calls Tryz.prog 114 #[.slice A l c, .int .u64 n, .int .i64 k] w (MinePost 5 w0 A (bs ++ dig n.toNat k.toNat)) := by
 obtain ⟨k, rfl⟩ : ∃ kk : Nat, k = kk := ⟨k.toNat, by omega⟩
 obtain ⟨n, rfl⟩ : ∃ kk : Nat, n = kk := ⟨n.toNat, by omega⟩
 have HN2 := hide hn2
 clear hn2
 have hL := hide hM.len
 go_enter Tryz.func114, Tryz.ntmps114
 go_wp2
 go_loopw [0, 1, 8] (fun b m t wr => ∃ (j mm : Nat) (A' : Option Addr) (l' c' : Nat), j ≤ k ∧ b = .slice A' l' c' ∧ mm = n / 256 ^ j ∧ m = .int .u64 (mm : Int) ∧ t = .int .i64 j ∧ Mine 5 w0 wr A' l' c' (bs ++ dig n j) ∧ (Fr w0 A → Fr w0 A')) (fun _ _ t _ => k - (intOf t).toNat)
 case atStart => exact ⟨0, n, A, l, c, by omega, rfl, by simp, rfl, rfl, by simpa [dig] using hM, id⟩
 case round =>
  obtain ⟨j, m, A', l', c', hj, rfl, hm, rfl, rfl, ht, hf⟩ := hrel
  have HF := hide hf
  clear hf
  have HM := hide hm
  have m0 : (0 : Int) ≤ (m : Int) := by omega
  have hl' : l' = l + j := by rw [← ht.len, List.length_append, dig_length, hL.out]
  have HL := hide hl'
  clear hm hl'
  by_cases hlt : j < k
  ·have hw := u8_wrap (m : Int)
   have b1 := Bys.one wr 5 ((m : Int) % 256) (by omega) (by omega)
   go_wp2_with (at_builtin; refine wpList_app rfl _ _ rfl w0 A' l' c' (bs ++ dig n j) (by rfl) (ht.alloc _) (some ⟨wr.heap.size, 0, none⟩) 1 1 [(m : Int) % 256] (by rfl) b1 (by rw [HL.out]; omega) ?_; intro A2 n2 c2 w2 t2 f2)
   go_wp2
   refine ⟨⟨j + 1, m / 256, A2, n2, c2, by omega, rfl, ?_, by simp, by simp, ?_, fun h => f2 (.inl (HF.out h))⟩, by simp [intOf]; omega⟩
   ·rw [HM.out, Nat.div_div_eq_div_mul, Nat.pow_succ]
   ·have e : ((m : Int) % 256) = ((n / 256 ^ j % 256 : Nat) : Int) := by rw [← HM.out]; omega
    rw [dig_snoc, ← List.append_assoc, ← e]
    exact t2
  ·obtain rfl : j = k := by omega
   go_wp2
   go_ret
   exact ⟨A', l', c', rfl, by simpa using ht, HF.out⟩
theorem cnt1 (n : Int) (h0 : 0 ≤ n) (h : n < 253) : cnt n.toNat = [n] := by
 have : n.toNat < 253 := by omega
 simp [cnt, this]; omega
theorem cnt2 (n : Int) (h : 253 ≤ n) (h2 : n < 65536) : cnt n.toNat = 253 :: dig n.toNat 2 := by
 have a : ¬ n.toNat < 253 := by omega
 have b : n.toNat < 65536 := by omega
 simp [cnt, a, b]
theorem cnt4 (n : Int) (h : 65536 ≤ n) (h2 : n < 4294967296) : cnt n.toNat = 254 :: dig n.toNat 4 := by
 have a : ¬ n.toNat < 253 := by omega
 have b : ¬ n.toNat < 65536 := by omega
 have c : n.toNat < 4294967296 := by omega
 simp [cnt, a, b, c]
theorem cnt8 (n : Int) (h : 4294967296 ≤ n) : cnt n.toNat = 255 :: dig n.toNat 8 := by
 have a : ¬ n.toNat < 253 := by omega
 have b : ¬ n.toNat < 65536 := by omega
 have c : ¬ n.toNat < 4294967296 := by omega
 simp [cnt, a, b, c]
theorem count_any (w0 w : World) (A : Option Addr) (l c : Nat) (bs : List Int) (n : Int) (hM : Mine 5 w0 w A l c bs) (hn : 0 ≤ n) (hn2 : n < 18446744073709551616) (hl : l ≤ 50000000000) :
  Calls Tryz.prog 81 #[.slice A l c, .int .u64 n] w (MinePost 5 w0 none (bs ++ cnt n.toNat)) := by
 have HN2 := hide hn2
 clear hn2
 have hL := hide hM.len
 by_cases h1 : n < 253
 ·have E := hide (cnt1 n hn h1)
  have hw : IntKind.u8.wrap n = n := by rw [u8_wrap]; omega
  have b1 := Bys.one w 5 n (by omega) (by omega)
  go_enter Tryz.func81, Tryz.ntmps81
  go_wp2_with (at_builtin; refine wpList_app rfl _ _ rfl w0 A l c bs (by rfl) (hM.alloc _) (some ⟨w.heap.size, 0, none⟩) 1 1 [n] (by rfl) b1 (by omega) ?_; intro A2 n2 c2 w2 t2 f2)
  go_wp2
  go_ret
  rw [E.out]
  exact MinePost.mk t2 (f2 (.inr (by decide)))
 ·by_cases h2 : n < 65536
  ·have E := hide (cnt2 n (by omega) h2)
   have t1 : decide (n < 253) = false := by simp; omega
   have t2 : decide (n < 65536) = true := by simp; omega
   have b1 := Bys.one w 5 253 (by omega) (by omega)
   clear h1 h2
   go_enter Tryz.func81, Tryz.ntmps81
   go_wp2_with (at_builtin; refine wpList_app rfl _ _ rfl w0 A l c bs (by rfl) (hM.alloc _) (some ⟨w.heap.size, 0, none⟩) 1 1 [253] (by rfl) b1 (by omega) ?_; intro A2 n2 c2 w2 t2 f2)
   have hl2 : n2 = l + 1 := by rw [← t2.len]; simp [hL.out]
   refine (fixed_any w0 w2 A2 n2 c2 _ n 2 t2 hn HN2.out (by decide) (by decide) (by omega)).mono ?_
   rintro e w3 ⟨A3, n3, c3, rfl, t3, f3⟩
   have T := hide hl2
   clear hl2
   go_wp2
   go_ret
   refine ⟨A3, n3, c3, rfl, by rw [E.out]; simpa using t3, fun _ => f3 (f2 (.inr (by decide)))⟩
  ·by_cases h3 : n < 4294967296
   ·have E := hide (cnt4 n (by omega) h3)
    have t1 : decide (n < 253) = false := by simp; omega
    have t2 : decide (n < 65536) = false := by simp; omega
    have t3 : decide (n < 4294967296) = true := by simp; omega
    have b1 := Bys.one w 5 254 (by omega) (by omega)
    clear h1 h2 h3
    go_enter Tryz.func81, Tryz.ntmps81
    go_wp2_with (at_builtin; refine wpList_app rfl _ _ rfl w0 A l c bs (by rfl) (hM.alloc _) (some ⟨w.heap.size, 0, none⟩) 1 1 [254] (by rfl) b1 (by omega) ?_; intro A2 n2 c2 w2 t2 f2)
    have hl2 : n2 = l + 1 := by rw [← t2.len]; simp [hL.out]
    refine (fixed_any w0 w2 A2 n2 c2 _ n 4 t2 hn HN2.out (by decide) (by decide) (by omega)).mono ?_
    rintro e w3 ⟨A3, n3, c3, rfl, t3, f3⟩
    have T := hide hl2
    clear hl2
    go_wp2
    go_ret
    refine ⟨A3, n3, c3, rfl, by rw [E.out]; simpa using t3, fun _ => f3 (f2 (.inr (by decide)))⟩
   ·have E := hide (cnt8 n (by omega))
    have t1 : decide (n < 253) = false := by simp; omega
    have t2 : decide (n < 65536) = false := by simp; omega
    have t3 : decide (n < 4294967296) = false := by simp; omega
    have b1 := Bys.one w 5 255 (by omega) (by omega)
    clear h1 h2 h3
    go_enter Tryz.func81, Tryz.ntmps81
    go_wp2_with (at_builtin; refine wpList_app rfl _ _ rfl w0 A l c bs (by rfl) (hM.alloc _) (some ⟨w.heap.size, 0, none⟩) 1 1 [255] (by rfl) b1 (by omega) ?_; intro A2 n2 c2 w2 t2 f2)
    have hl2 : n2 = l + 1 := by rw [← t2.len]; simp [hL.out]
    refine (fixed_any w0 w2 A2 n2 c2 _ n 8 t2 hn HN2.out (by decide) (by decide) (by omega)).mono ?_
    rintro e w3 ⟨A3, n3, c3, rfl, t3, f3⟩
    have T := hide hl2
    clear hl2
    go_wp2
    go_ret
    refine ⟨A3, n3, c3, rfl, by rw [E.out]; simpa using t3, fun _ => f3 (f2 (.inr (by decide)))⟩
theorem within_range (n : Int) : 0 ≤ Rd.within n ∧ Rd.within n ≤ 8 := by unfold Rd.within; omega
theorem Fixed_any (w0 w : World) (A : Option Addr) (l c : Nat) (bs : List Int) (n k : Int) (hb : Below w0.heap.size w0 w) (hB : Bys w A l bs) (hn : 0 ≤ n) (hn2 : n < 18446744073709551616) (hl : l ≤ 50000000000) :
  Calls Tryz.prog 84 #[.slice A l c, .int .u64 n, .int .i64 k] w (MinePost 5 w0 none (bs ++ dig n.toNat (Rd.within k).toNat)) := by
 have HN2 := hide hn2
 have hr := within_range k
 have HL := hide hB.1
 clear hn2
 go_enter Tryz.func84, Tryz.ntmps84
 go_wp2_with (go_at_call 39; refine (clone_any w0 w A l c bs hb hB (by omega)).mono ?_; rintro e w1 ⟨A1, n1, c1, rfl, t1, f1⟩)
 go_wp2_with (go_at_call 116; refine (within_any _ _).mono ?_; rintro e w2 ⟨rfl, rfl⟩)
 have h1 : n1 = l := by rw [← t1.len, HL.out]
 refine (fixed_any w0 w1 A1 n1 c1 _ n _ t1 hn HN2.out hr.1 hr.2 (by omega)).mono ?_
 rintro e w3 ⟨A3, n3, c3, rfl, t3, f3⟩
 clear h1
 go_wp2
 go_ret
 exact ⟨A3, n3, c3, rfl, t3, fun h => f3 (f1 h)⟩
theorem Count_any (w0 w : World) (A : Option Addr) (l c : Nat) (bs : List Int) (n : Int) (hb : Below w0.heap.size w0 w) (hB : Bys w A l bs) (hc : l ≤ c) (hn : 0 ≤ n) (hn2 : n < 18446744073709551616) (hl : l ≤ 50000000000) :
  Calls Tryz.prog 46 #[.slice A l c, .int .u64 n] w (MinePost 5 w0 none (bs ++ cnt n.toNat)) := by
 have HN2 := hide hn2
 clear hn2
 go_enter Tryz.func46, Tryz.ntmps46
 go_wp2_with fail
 refine (count_any w0 w A l l bs n (Mine.full hb hB) hn HN2.out hl).mono ?_
 rintro e w3 ⟨A3, n3, c3, rfl, t3, f3⟩
 go_wp2
 go_ret
 exact ⟨A3, n3, c3, rfl, t3, f3⟩
theorem Text_any (w0 w : World) (A : Option Addr) (l c : Nat) (bs : List Int) (B : Option Addr) (m cB : Nat) (xss : List (List Int)) (hb : Below w0.heap.size w0 w) (hB : Bys w A l bs) (hX : Byss w B m xss) (hl : l ≤ 1000000000) (hm : m ≤ 10000) (hx : ∀ x ∈ xss, x.length ≤ 1000000) :
  Calls Tryz.prog 47 #[.slice A l c, .slice B m cB] w (MinePost 5 w0 none (bs ++ xss.flatMap txt)) := by
 have HX := hide hx
 have HL := hide hB.1
 have HM := hide hX.1
 clear hx
 go_enter Tryz.func47, Tryz.ntmps47
 go_wp2_with (go_at_call 39; refine (clone_any w w A l c bs (Below.refl _ _) hB (by omega)).mono ?_; rintro e w1 ⟨A1, n1, c1, rfl, t1, f1⟩)
 go_loopw [5, 12] (fun o i wr => ∃ (j : Nat) (A' : Option Addr) (n' c' : Nat), j ≤ m ∧ o = .slice A' n' c' ∧ i = .int .i64 j ∧ n' ≤ 1000000000 + j * 1000009 ∧ Mine 5 w wr A' n' c' (bs ++ (xss.take j).flatMap txt) ∧ Fr w A') (fun _ i _ => m - (intOf i).toNat)
 case atStart => exact ⟨0, A1, n1, c1, by omega, rfl, rfl, by have := t1.len; have := HL.out; omega, by simpa using t1, f1 (Fr.none _)⟩
 case round =>
  obtain ⟨j, A', n', c', hj, rfl, rfl, hn', ht, hf⟩ := hrel
  by_cases hlt : j < m
  ·obtain ⟨b, off, rfl, hrow⟩ := hX.2 (by omega)
   obtain ⟨x, hx⟩ : ∃ x, xss[j]? = some x := ⟨_, List.getElem?_eq_getElem (by rw [HM.out]; exact hlt)⟩
   obtain ⟨A2, n2, c2, hcell, hBx, hcx⟩ := hrow j x hx
   have hxl := HX.out x (List.mem_of_getElem? hx)
   have HBL := hide hBx.1
   have hcell2 := cell_under ht.below hcell
   have hs : xss.take (j + 1) = xss.take j ++ [x] := by rw [List.take_add_one, hx]; rfl
   have e : bs ++ (xss.take (j + 1)).flatMap txt = bs ++ (xss.take j).flatMap txt ++ cnt x.length ++ x := by
    rw [hs, List.flatMap_append]; simp [txt, List.append_assoc]
   have E := hide e
   have HR := hide hrow
   have i0 : (0 : Int) ≤ (j : Int) := by omega
   have i1 : (j : Int) < (m : Int) := by omega
   have q0 := hBx.1
   have n20 : n2 ≤ 1000000 := by omega
   have hu : IntKind.u64.wrap (n2 : Int) = (n2 : Int) := by rw [IntKind.wrap_u64]; omega
   clear e hs hx hcell hrow hX q0 hxl
   go_wp2_with fail
   refine (count_any w wr A' n' c' _ n2 ht (by omega) (by omega) (by omega)).mono ?_
   rintro e w3 ⟨A3, n3, c3, rfl, t3, f3⟩
   have h3 : n3 ≤ n' + 9 := by
    have e1 := t3.len
    have e2 := ht.len
    have e3 := (cnt_length ((n2 : Int)).toNat).2
    rw [List.length_append] at e1
    omega
   go_wp2_with (at_builtin; refine wpList_app rfl _ _ rfl w A3 n3 c3 _ (by rfl) t3 A2 n2 c2 x (by rfl) (t3.old hBx) (by omega) ?_; intro A4 n4 c4 w4 t4 f4)
   have h4 : n4 = n3 + n2 := by
    have e1 := t4.len
    have e2 := t3.len
    have e3 := hBx.1
    rw [List.length_append] at e1
    omega
   have H4 := hide h4
   clear h4
   go_wp2
   refine ⟨⟨j + 1, A4, n4, c4, by omega, rfl, by simp, by have := H4.out; omega, ?_, f4 (.inl (f3 (Fr.none _)))⟩, by simp [intOf]; omega⟩
   rw [E.out]
   simpa [HBL.out] using t4
  ·obtain rfl : j = m := by omega
   have e : bs ++ (xss.take j).flatMap txt = bs ++ xss.flatMap txt := by rw [List.take_of_length_le (by rw [HM.out]; exact Nat.le_refl _)]
   rw [e] at ht
   have T := hide ht
   clear ht e
   go_wp2
   go_ret
   exact MinePost.mk (T.out.older hb) (hf.older hb)
end Go.Proofs.YtjnpkcabkccaoaaGreat

import Derived.Test.YtbpmcnfmgaolnaaPk3
import Derived.Test.YtbpmcnfmgaolnaaPk1
import Derived.Deep.RegionHeldLaw
import Derived.Laws.StructEq
/-
  Amounts, coins and outputs as bytes: plain functions, no program in sight.
-/
namespace Go.Proofs.Ytbpmcnfmgaolnaa
open Go.RowKit

def money (n : Int) : Prop := 0 ≤ n ∧ n ≤ 2000000000000
instance (n : Int) : Decidable (money n) := by unfold money; infer_instance
/-- All together, and the error's number; s: what has been summed. -/
def sumFrom : List Int → Int → Int × Int
  | [], s => (s, 0)
  | v :: l, s => if money v ∧ money (s + v) then sumFrom l (s + v) else (0, 91)
/-- How much is made at a height. -/
def subsidy (h : Int) : Int := if h < 0 then 0 else 5000000000 / 2 ^ (h / 150).toNat
theorem subsidy_late (h : Int) (hh : 33 * 150 ≤ h) : subsidy h = 0 := by
  have h0 : ¬ h < 0 := by omega
  rw [subsidy, if_neg h0]
  obtain ⟨k, hk⟩ : ∃ k, (h / 150).toNat = 33 + k := ⟨(h / 150).toNat - 33, by omega⟩
  rw [hk]
  have h1 : (0 : Int) < 2 ^ k := Int.pow_pos (by decide)
  have : (5000000000 : Int) < 2 ^ (33 + k) := by
    rw [Int.pow_add]
    have : (2 : Int) ^ 33 = 8589934592 := by decide
    rw [this]
    omega
  exact Int.ediv_eq_zero_of_lt (by decide) this
def u64 (v : Int) : Int := v % 18446744073709551616
theorem u64_U64 (v : Int) : U64 (u64 v) := ⟨by unfold u64; omega, by unfold u64; omega⟩
/-- A number of 64 bits, read as one with a sign. -/
def i64 (n : Int) : Int := if n < 9223372036854775808 then n else n - 18446744073709551616
theorem i64_u64 (v : Int) (h0 : -9223372036854775808 ≤ v) (h1 : v ≤ 9223372036854775807) : i64 (u64 v) = v := by
  unfold i64 u64
  split <;> omega
structure OutD where
  value : Int
  lock : List Int
def OutD.bytes (o : OutD) : List Int := dig (u64 o.value).toNat 8 ++ txt o.lock
structure CoinD where
  out : OutD
  height : Int
  base : Bool
def CoinD.right (c : CoinD) : Prop := money c.out.value ∧ c.out.lock.length ≤ 2000 ∧ 0 ≤ c.height ∧ c.height ≤ 1000000000
def CoinD.num (c : CoinD) : Nat := 2 * c.height.toNat + (if c.base then 1 else 0)
def CoinD.bytes (c : CoinD) : List Int := cnt c.num ++ c.out.bytes
def refBytes (id : List Int) (at_ : Int) : List Int := id ++ dig at_.toNat 4
end Go.Proofs.Ytbpmcnfmgaolnaa
/-
  coin: Money, Sum, Subsidy; the document's.
-/
namespace Go.Proofs.Ytbpmcnfmgaolnaa
open Go.RowKit

def moneyB (n : Int) : Bool := decide (money n)
theorem money_iff (n : Int) : moneyB n = true ↔ money n := by unfold moneyB; simp
set_option maxHeartbeats 400000 in
theorem Money_any (w : World) (n : Int) : Calls Try.prog 91 #[.int .i64 n] w fun e w' => e = .returned (.bool (moneyB n)) ∧ w = w' := by
  have h : (n < 0 ∧ moneyB n = false) ∨ (0 ≤ n ∧ n ≤ 2000000000000 ∧ moneyB n = true) ∨ (0 ≤ n ∧ 2000000000000 < n ∧ moneyB n = false) := by
    unfold moneyB money
    by_cases h1 : 0 ≤ n <;> by_cases h2 : n ≤ 2000000000000 <;> simp [h1, h2] <;> omega
  rcases h with ⟨h1, e⟩ | ⟨h1, h2, e⟩ | ⟨h1, h2, e⟩
  all_goals
    have E := hide e
    clear e
    go_enter Try.func91, Try.ntmps91
    go_wp2
    go_ret
    exact ⟨by rw [E.out]; first | rfl | (show Ending.returned (.bool (decide _)) = _; congr 2; simp; omega), rfl⟩
set_option maxHeartbeats 400000 in
theorem refmoney_any (w : World) (n : Int) : Calls Try.prog 93 #[.int .i64 n] w fun e w' => e = .returned (.bool (moneyB n)) ∧ w = w' := by
  have h : (n < 0 ∧ moneyB n = false) ∨ (0 ≤ n ∧ n ≤ 2000000000000 ∧ moneyB n = true) ∨ (0 ≤ n ∧ 2000000000000 < n ∧ moneyB n = false) := by
    unfold moneyB money
    by_cases h1 : 0 ≤ n <;> by_cases h2 : n ≤ 2000000000000 <;> simp [h1, h2] <;> omega
  rcases h with ⟨h1, e⟩ | ⟨h1, h2, e⟩ | ⟨h1, h2, e⟩
  all_goals
    have E := hide e
    clear e
    go_enter Try.func93, Try.ntmps93
    go_wp2
    go_ret
    exact ⟨by rw [E.out]; first | rfl | (show Ending.returned (.bool (decide _)) = _; congr 2; simp; omega), rfl⟩
/-- An output in memory. -/
structure OutV where
  v : Int
  A : Option Addr
  n : Nat
  c : Nat
  bs : List Int
def OutV.cells (a : OutV) : List Value := [.int .i64 a.v, .slice a.A a.n a.c]
def OutV.d (a : OutV) : OutD := ⟨a.v, a.bs⟩
structure OutV.Fine (w : World) (a : OutV) : Prop where
  v : -9223372036854775808 ≤ a.v ∧ a.v ≤ 9223372036854775807
  bys : Bys w a.A a.n a.bs
  cap : a.n ≤ a.c
  free : Free w a.A a.n
abbrev OutsIn (w : World) (A : Option Addr) (n : Nat) (xs : List OutV) : Prop := RowsIn OutV.cells 2 OutV.Fine w A n xs
theorem OutV.Fine.below {w w' : World} {a : OutV} (h : a.Fine w) (hb : Below w.heap.size w w') : a.Fine w' := ⟨h.v, h.bys.below hb, h.cap, h.free.below h.bys hb⟩
theorem OutsIn.below' {w w' : World} {A : Option Addr} {n : Nat} {xs : List OutV} (h : OutsIn w A n xs) (hb : Below w.heap.size w w') : OutsIn w' A n xs := h.below hb fun _ h => h.below hb
theorem rangeAt_c0 {w : World} {b o : Nat} {x : Value} {l : List Value} (h : w.rangeAt b o (x :: l)) : w.cell? ⟨b, o, none⟩ = some x := by have := h 0 x rfl; simpa using this
theorem rangeAt_c1 {w : World} {b o : Nat} {x y : Value} {l : List Value} (h : w.rangeAt b o (x :: y :: l)) : w.cell? ⟨b, o + 1, none⟩ = some y := h 1 y rfl
theorem sumFrom_step (v : Int) (l : List Int) (s : Int) : sumFrom (v :: l) s = if money v ∧ money (s + v) then sumFrom l (s + v) else (0, 91) := rfl
set_option maxHeartbeats 2000000 in
set_option maxRecDepth 100000 in
theorem Sum_any (w : World) (A : Option Addr) (n c : Nat) (xs : List OutV) (hX : OutsIn w A n xs) (hn : (n : Int) ≤ 1000000) :
    Calls Try.prog 106 #[.slice A n c] w fun e w' => e = .returned (.tuple #[.int .i64 (sumFrom (xs.map (·.v)) 0).1, .int .i64 (sumFrom (xs.map (·.v)) 0).2]) ∧ Below w.heap.size w w' := by
  have HX := hide hX
  clear hX
  go_enter Try.func106, Try.ntmps106
  go_wp2
  go_loopw [4, 6, 9] (fun s _ i wr => ∃ (j : Nat) (t : Int), j ≤ n ∧ i = .int .i64 j ∧ s = .int .i64 t ∧ 0 ≤ t ∧ t ≤ 2000000000000 ∧ sumFrom (xs.map (·.v)) 0 = sumFrom ((xs.drop j).map (·.v)) t ∧ Below w.heap.size w wr) (fun _ _ i _ => n - (intOf i).toNat)
  case atStart => exact ⟨0, 0, by omega, rfl, rfl, by omega, by omega, by simp, Below.refl _ _⟩
  case round =>
    obtain ⟨j, t, hj, rfl, rfl, t0, t1, hs, hb⟩ := hrel
    by_cases hlt : j < n
    · obtain ⟨b, off, rfl, hrow⟩ := HX.out.2.2 (by omega)
      have hjl : j < xs.length := by rw [HX.out.1]; exact hlt
      obtain ⟨x, hx⟩ : ∃ x, xs[j]? = some x := ⟨_, List.getElem?_eq_getElem hjl⟩
      have hr := range_under (hrow j x hx) hb
      have c0 := rangeAt_c0 hr
      have c1 := rangeAt_c1 hr
      have hd : xs.drop j = x :: xs.drop (j + 1) := by
        rw [List.drop_eq_getElem_cons hjl]
        rw [List.getElem?_eq_getElem hjl] at hx
        injection hx with hx
        rw [hx]
      have hfv := (HX.out.2.1 x (List.mem_of_getElem? hx)).v
      rw [hd, List.map_cons, sumFrom_step] at hs
      have i0 : (0 : Int) ≤ (j : Int) := by omega
      have i1 : (j : Int) < (n : Int) := by omega
      have hb1 : Below w.heap.size w (wr.alloc (.cells #[.int .i64 x.v, .slice x.A x.n x.c] 62)) := Below.then_ hb ((Below.refl _ wr).alloc (Nat.le_refl _) _)
      obtain ⟨v, A', n', c', bs'⟩ := x
      simp only at c0 c1 hs hfv hb1
      by_cases hm : money v
      · have m1 := (money_iff v).2 hm
        have v0 : 0 ≤ v := hm.1
        have v1 : v ≤ 2000000000000 := hm.2
        by_cases hm2 : money (t + v)
        · have m2 := (money_iff (t + v)).2 hm2
          have s0 : 0 ≤ t + v := hm2.1
          have s1 : t + v ≤ 2000000000000 := hm2.2
          rw [if_pos ⟨hm, hm2⟩] at hs
          have HS := hide hs
          clear hs hrow hr hx hd hm hm2 hfv
          go_wp2_with (go_at_call 91; refine (Money_any _ _).mono ?_; rintro e w' ⟨rfl, rfl⟩)
          exact ⟨⟨j + 1, t + v, by omega, by simp, rfl, s0, s1, HS.out, hb1⟩, by simp [intOf]; omega⟩
        · have m2 : moneyB (t + v) = false := by unfold moneyB; simpa using hm2
          rw [if_neg (fun h => hm2 h.2)] at hs
          have HS := hide hs
          clear hs hrow hr hx hd hm hm2 hfv
          go_wp2_with (go_at_call 91; refine (Money_any _ _).mono ?_; rintro e w' ⟨rfl, rfl⟩)
          go_ret2
          exact ⟨by rw [HS.out]; rfl, hb1⟩
      · have m1 : moneyB v = false := by unfold moneyB; simpa using hm
        rw [if_neg (fun h => hm h.1)] at hs
        have HS := hide hs
        clear hs hrow hr hx hd hm
        go_wp2_with (go_at_call 91; refine (Money_any _ _).mono ?_; rintro e w' ⟨rfl, rfl⟩)
        go_ret2
        exact ⟨by rw [HS.out]; rfl, hb1⟩
    · obtain rfl : j = n := by omega
      rw [List.drop_of_length_le (by rw [HX.out.1]; exact Nat.le_refl _)] at hs
      have HS := hide hs
      clear hs
      go_wp2
      go_ret2
      exact ⟨by rw [HS.out]; rfl, hb⟩
end Go.Proofs.Ytbpmcnfmgaolnaa
/-
  coin: Subsidy; the document's Sum and Subsidy.
-/
namespace Go.Proofs.Ytbpmcnfmgaolnaa
open Go.RowKit

theorem shr_sub (q : Int) (h0 : 0 ≤ q) (h1 : q ≤ 63) (w : World) : (Op.shift .shr .i64 5000000000 .i64 q).run Try.prog w = .ok (.int .i64 (5000000000 / 2 ^ q.toNat)) w := by
  have e : min q.toNat IntKind.i64.bits = q.toNat := by simp only [IntKind.bits]; omega
  have hn : ¬ q < 0 := by omega
  unfold Op.shift
  rw [if_neg hn]
  simp only [e, Sem.run_pure]
  rw [Int.fdiv_eq_ediv_of_nonneg _ (Int.le_of_lt (Int.pow_pos (by decide)))]
set_option maxHeartbeats 1000000 in
set_option maxRecDepth 100000 in
theorem Subsidy_any (w : World) (h : Int) (hh : h < 9223372036854775808) : Calls Try.prog 89 #[.int .i64 h] w fun e w' => e = .returned (.int .i64 (subsidy h)) ∧ w = w' := by
  by_cases h0 : h < 0
  · have E : Hid (subsidy h = 0) := hide (by simp [subsidy, h0])
    clear hh
    go_enter Try.func89, Try.ntmps89
    go_wp2
    go_ret
    exact ⟨by rw [E.out]; rfl, rfl⟩
  · have h1 : 0 ≤ h := by omega
    obtain ⟨q, hq⟩ : ∃ q, q = h / 150 := ⟨_, rfl⟩
    have q0 : 0 ≤ q := by omega
    have hw : wrap64 (h.tdiv 150) = q := by
      rw [Int.tdiv_eq_ediv_of_nonneg h1, ← hq, ← IntWalk.i64_left, IntKind.wrap_i64]
      omega
    by_cases h63 : q ≤ 63
    · have hs := shr_sub q q0 h63
      have E : Hid (subsidy h = 5000000000 / 2 ^ q.toNat) := hide (by rw [subsidy, if_neg h0, hq])
      clear hq h0 hh
      go_enter Try.func89, Try.ntmps89
      go_wp2
      go_ret
      exact ⟨by rw [E.out]; rfl, rfl⟩
    · have hs := shr_sub 63 (by decide) (by decide)
      have E : Hid (subsidy h = 5000000000 / 2 ^ (63 : Int).toNat) := hide (by rw [subsidy_late h (by omega)]; decide)
      have h64 : 63 < q := by omega
      clear hq h0 h63 hh
      go_enter Try.func89, Try.ntmps89
      go_wp2
      go_ret
      exact ⟨by rw [E.out]; rfl, rfl⟩
theorem half_pow (k : Nat) : (5000000000 / 2 ^ k : Int).tdiv 2 = 5000000000 / 2 ^ (k + 1) := by
  have h0 : (0 : Int) ≤ 5000000000 / 2 ^ k := Int.ediv_nonneg (by decide) (Int.le_of_lt (Int.pow_pos (by decide)))
  rw [Int.tdiv_eq_ediv_of_nonneg h0, Int.ediv_ediv_of_nonneg (Int.le_of_lt (Int.pow_pos (by decide))), Int.pow_succ]
set_option maxHeartbeats 2000000 in
set_option maxRecDepth 100000 in
theorem refsum_any (w : World) (A : Option Addr) (n c : Nat) (xs : List OutV) (hX : OutsIn w A n xs) (hn : (n : Int) ≤ 1000000) :
    Calls Try.prog 108 #[.slice A n c] w fun e w' => e = .returned (.tuple #[.int .i64 (sumFrom (xs.map (·.v)) 0).1, .int .i64 (sumFrom (xs.map (·.v)) 0).2]) ∧ Below w.heap.size w w' := by
  have HX := hide hX
  clear hX
  go_enter Try.func108, Try.ntmps108
  go_wp2
  go_loopw [4, 6, 9] (fun s _ i wr => ∃ (j : Nat) (t : Int), j ≤ n ∧ i = .int .i64 j ∧ s = .int .i64 t ∧ 0 ≤ t ∧ t ≤ 2000000000000 ∧ sumFrom (xs.map (·.v)) 0 = sumFrom ((xs.drop j).map (·.v)) t ∧ Below w.heap.size w wr) (fun _ _ i _ => n - (intOf i).toNat)
  case atStart => exact ⟨0, 0, by omega, rfl, rfl, by omega, by omega, by simp, Below.refl _ _⟩
  case round =>
    obtain ⟨j, t, hj, rfl, rfl, t0, t1, hs, hb⟩ := hrel
    by_cases hlt : j < n
    · obtain ⟨b, off, rfl, hrow⟩ := HX.out.2.2 (by omega)
      have hjl : j < xs.length := by rw [HX.out.1]; exact hlt
      obtain ⟨x, hx⟩ : ∃ x, xs[j]? = some x := ⟨_, List.getElem?_eq_getElem hjl⟩
      have hr := range_under (hrow j x hx) hb
      have c0 := rangeAt_c0 hr
      have c1 := rangeAt_c1 hr
      have hd : xs.drop j = x :: xs.drop (j + 1) := by
        rw [List.drop_eq_getElem_cons hjl]
        rw [List.getElem?_eq_getElem hjl] at hx
        injection hx with hx
        rw [hx]
      rw [hd, List.map_cons, sumFrom_step] at hs
      have i0 : (0 : Int) ≤ (j : Int) := by omega
      have i1 : (j : Int) < (n : Int) := by omega
      have hb1 : Below w.heap.size w (wr.alloc (.cells #[.int .i64 x.v, .slice x.A x.n x.c] 62)) := Below.then_ hb ((Below.refl _ wr).alloc (Nat.le_refl _) _)
      obtain ⟨v, A', n', c', bs'⟩ := x
      simp only at c0 c1 hs hb1
      by_cases hm : money v
      · have m1 := (money_iff v).2 hm
        have v0 : 0 ≤ v := hm.1
        have v1 : v ≤ 2000000000000 := hm.2
        by_cases hm2 : v ≤ 2000000000000 - t
        · have hm3 : money (t + v) := ⟨by omega, by omega⟩
          have s0 : 0 ≤ t + v := hm3.1
          have s1 : t + v ≤ 2000000000000 := hm3.2
          rw [if_pos ⟨hm, hm3⟩] at hs
          have HS := hide hs
          clear hs hrow hr hx hd hm hm3
          go_wp2_with (go_at_call 93; refine (refmoney_any _ _).mono ?_; rintro e w' ⟨rfl, rfl⟩)
          exact ⟨⟨j + 1, t + v, by omega, by simp, rfl, s0, s1, HS.out, hb1⟩, by simp [intOf]; omega⟩
        · have hm3 : ¬ money (t + v) := fun h => by have := h.2; omega
          have hm4 : 2000000000000 - t < v := by omega
          rw [if_neg (fun h => hm3 h.2)] at hs
          have HS := hide hs
          clear hs hrow hr hx hd hm hm3 hm2
          go_wp2_with (go_at_call 93; refine (refmoney_any _ _).mono ?_; rintro e w' ⟨rfl, rfl⟩)
          go_ret2
          exact ⟨by rw [HS.out]; rfl, hb1⟩
      · have m1 : moneyB v = false := by unfold moneyB; simpa using hm
        rw [if_neg (fun h => hm h.1)] at hs
        have HS := hide hs
        clear hs hrow hr hx hd hm
        go_wp2_with (go_at_call 93; refine (refmoney_any _ _).mono ?_; rintro e w' ⟨rfl, rfl⟩)
        go_ret2
        exact ⟨by rw [HS.out]; rfl, hb1⟩
    · obtain rfl : j = n := by omega
      rw [List.drop_of_length_le (by rw [HX.out.1]; exact Nat.le_refl _)] at hs
      have HS := hide hs
      clear hs
      go_wp2
      go_ret2
      exact ⟨by rw [HS.out]; rfl, hb⟩
end Go.Proofs.Ytbpmcnfmgaolnaa
/-
  coin: outputs as bytes; the same output; the document's.
-/
namespace Go.Proofs.Ytbpmcnfmgaolnaa
open Go.RowKit

/-- An append to bytes of one's own, at a step of a region that draws its order. -/
theorem step_app {w : World} {ops : Array Oper} {o : Oper} {a : Act} {K : Act → World → Prop} {Q : Exit → Act → World → Prop} {E : Prop} (hgd : o.guard = none) (d : Nat) (hd : o.dst = some d) (s x : Operand)
    (ho : o.op = .call { callee := .builtin .append, args := #[s, x], argTypes := #[56, 56] })
    (w0 : World) (A : Option Addr) (n c : Nat) (bs : List Int) (hs : a.eval s = .slice A n c) (h : Mine 5 w0 w A n c bs) (B : Option Addr) (m c' : Nat) (cs : List Int) (hx : a.eval x = .slice B m c') (hB : Bys w B m cs) (hlen : n + m ≤ 140737488355328)
    (hK : ∀ A' n' c' w', Mine 5 w0 w' A' n' c' (bs ++ cs) → FrStep w0 A m A' → K (a.put (some d) (.slice A' n' c')) w') :
    if Region.wanted o (yielded ops a.tmps) = true then Oper.wp Try.prog o a w K Q else E := by
  rw [← hd] at hK
  obtain ⟨i, z, hi, hz, hs1, hby, hzs⟩ := u8_info
  obtain ⟨h0, rfl, G, h1, h2⟩ := h
  refine step_append_tail hgd s x 56 ho 5 i z Try.underlying56 hi hz hs1 hby hzs _ bs G hs h1 B m c' cs hx hB hlen fun A' c2 G' w' t' o' g' k' => ?_
  have hG : ∀ i, G' i → w0.heap.size ≤ i := fun i hi => by
    rcases g' i hi with h | h
    · exact h2 i h
    · exact Nat.le_trans h0.size h
  refine hK A' _ c2 w' ⟨h0.trans (o'.below h0.size (fun i hi hg => by have := h2 i hg; omega)), by rw [List.length_append, hB.1], G', t', hG⟩ fun hF => ?_
  rcases k' with ⟨hm, e1⟩ | hk
  · injection e1 with e1 _ _
    subst e1
    rcases hF with hF | hF
    · exact hF
    · omega
  · intro ad e1
    subst e1
    exact hG _ (hk ad.block rfl)

theorem below_alloc {w v : World} (h : Below w.heap.size w v) (o : Obj) : Below w.heap.size w (v.alloc o) := Below.then_ h ((Below.refl _ v).alloc (Nat.le_refl _) o)
theorem below_drew {w v : World} (h : Below w.heap.size w v) : Below w.heap.size w v.drew := h.drew
theorem Byss.one (w w1 : World) (e : TypeId) (A : Option Addr) (n c : Nat) (x : List Int) (h : Bys w A n x) (hc : n ≤ c) (hb : Below w.heap.size w w1) : Byss (w1.alloc (.cells #[.slice A n c] e)) (some ⟨w1.heap.size, 0, none⟩) 1 [x] := by
  refine ⟨rfl, fun _ => ⟨w1.heap.size, 0, rfl, fun j xs hj => ?_⟩⟩
  rcases j with _ | j
  · simp at hj; subst hj
    exact ⟨A, n, c, by rw [Nat.zero_add]; exact (Blk.new w1 e [.slice A n c]).c0, (h.below hb).alloc _, hc⟩
  · simp at hj
theorem u64_wrap (v : Int) : IntKind.u64.wrap v = u64 v := by rw [IntKind.wrap_u64]; rfl
theorem txt_len (b : List Int) : (txt b).length ≤ b.length + 9 := by
  have := (cnt_length b.length).2
  rw [txt, List.length_append]
  omega
theorem text_one (b x : List Int) : b ++ [x].flatMap txt = b ++ txt x := by simp
set_option maxHeartbeats 4000000 in
set_option maxRecDepth 100000 in
theorem OutBytes_any (w : World) (o : OutV) (hf : o.Fine w) (hl : o.n ≤ 1000000) :
    Calls Try.prog 96 #[.agg #[.int .i64 o.v, .slice o.A o.n o.c]] w (MinePost 5 w none o.d.bytes) := by
  obtain ⟨v, A, n, c, bs⟩ := o
  obtain ⟨hv, hB, hc⟩ := hf
  simp only at hv hB hc hl
  have hu := u64_wrap v
  have hU := u64_U64 v
  have hln := hide (show bs.length ≤ 1000000 by rw [hB.1]; exact hl)
  have E : Hid ((⟨v, A, n, c, bs⟩ : OutV).d.bytes = dig (u64 v).toNat 8 ++ [bs].flatMap txt) := hide (by simp [OutV.d, OutD.bytes])
  have W8 : Hid ((Rd.within 8).toNat = 8) := hide (by decide)
  have hb0 : Below w.heap.size w (w.alloc (.cells #[.int .i64 v, .slice A n c] 62)) := below_alloc (Below.refl _ _) _
  have BX := Blk.new w 62 [.int .i64 v, .slice A n c]
  have k0 := BX.c0
  have k1 := BX.c1
  have HX0 := Byss.one w _ 56 A n c bs hB hc hb0
  rw [World.size_alloc] at HX0
  have HX := hide HX0
  clear HX0
  have HBX := hide BX
  clear BX
  go_enter Try.func96, Try.ntmps96
  go_wp2_with fail
  go_region_held (fun w' => w'.cell? ⟨w.heap.size, 0, none⟩ = some (.int .i64 v) ∧ w'.cell? ⟨w.heap.size, 1, none⟩ = some (.slice A n c))
    (first | exact ⟨k0, k1⟩ | exact ⟨(HBX.out.alloc _).c0, (HBX.out.alloc _).c1⟩ | exact ⟨(HB3.out.alloc _).c0, (HB3.out.alloc _).c1⟩)
    (first
      | (go_at_call 86; refine (Fixed_any _ _ none 0 0 [] (u64 v) 8 (Below.refl _ _) (Bys.nil _ _) hU.1 hU.2 (by decide)).mono ?_; rintro e w3 ⟨A3, n3, c3, rfl, t3, f3⟩; have hb3 : Below w.heap.size w w3 := Below.then_ (by first | exact below_drew hb0 | exact below_drew (below_alloc hb0 _) | exact hb0 | exact below_alloc hb0 _ | exact below_drew (below_drew (below_alloc hb0 _))) t3.below; have HB3 : Hid (Blk w3 w.heap.size 62 [.int .i64 v, .slice A n c]) := hide (Blk.under (by first | exact HBX.out | exact HBX.out.alloc _) t3.below); have k0 := HB3.out.c0; have k1 := HB3.out.c1; have hl3 : n3 ≤ 1000000000 := (by have e1 := t3.len; rw [W8.out, List.nil_append, dig_length] at e1; omega))
      | (go_at_call 99; refine (Text_any _ _ A3 n3 c3 _ _ 1 1 [bs] (Below.refl _ _) (by first | exact t3.bys | exact t3.bys.alloc _) (by first | exact Byss.one w w3 56 A n c bs hB hc hb3 | exact HX.out.below t3.below | exact (HX.out.below ((Below.refl _ _).drew)).below t3.below) hl3 (by decide) (by intro x hx; simp at hx; subst hx; exact hln.out)).mono ?_; rintro e w4 ⟨A4, n4, c4, rfl, t4, f4⟩; have hb4 : Below w.heap.size w w4 := Below.then_ (by first | exact below_drew hb3 | exact below_drew (below_alloc hb3 _) | exact hb3 | exact below_alloc hb3 _ | exact below_drew (below_drew (below_alloc hb3 _))) t4.below; have k0 : w4.cell? ⟨w.heap.size, 0, none⟩ = some (.int .i64 v) := cell_under t4.below (by first | exact HB3.out.c0 | exact (HB3.out.alloc _).c0); have k1 : w4.cell? ⟨w.heap.size, 1, none⟩ = some (.slice A n c) := cell_under t4.below (by first | exact HB3.out.c1 | exact (HB3.out.alloc _).c1)))
  all_goals
    go_wp2
    go_ret
    rw [E.out, ← W8.out]
    first
    | exact MinePost.mk (by rw [← List.nil_append (dig _ _)]; exact t4.older hb3) ((f4 (Fr.none _)).older hb3)
    | exact MinePost.mk (by rw [← List.nil_append (dig _ _)]; exact t4.older (below_alloc hb3 _)) ((f4 (Fr.none _)).older (below_alloc hb3 _))
    | exact MinePost.mk (by rw [← List.nil_append (dig _ _)]; exact t4.older (below_drew hb3)) ((f4 (Fr.none _)).older (below_drew hb3))
set_option maxHeartbeats 4000000 in
set_option maxRecDepth 100000 in
theorem refOutBytes_any (w : World) (o : OutV) (hf : o.Fine w) (hl : o.n ≤ 1000000) :
    Calls Try.prog 94 #[.agg #[.int .i64 o.v, .slice o.A o.n o.c]] w (MinePost 5 w none o.d.bytes) := by
  obtain ⟨v, A, n, c, bs⟩ := o
  obtain ⟨hv, hB, hc⟩ := hf
  simp only at hv hB hc hl
  have hu := u64_wrap v
  have hU := u64_U64 v
  have hln := hide (show bs.length ≤ 1000000 by rw [hB.1]; exact hl)
  have E : Hid ((⟨v, A, n, c, bs⟩ : OutV).d.bytes = dig (u64 v).toNat 8 ++ txt bs) := hide (by simp [OutV.d, OutD.bytes])
  have W8 : Hid ((Rd.within 8).toNat = 8) := hide (by decide)
  have hb0 : Below w.heap.size w (w.alloc (.cells #[.int .i64 v, .slice A n c] 62)) := below_alloc (Below.refl _ _) _
  have BX := Blk.new w 62 [.int .i64 v, .slice A n c]
  have k0 := BX.c0
  have k1 := BX.c1
  have HBX := hide BX
  have HL : Hid (n ≤ 1000000) := hide hl
  clear BX hl
  have HB := hide hB
  clear hB
  go_enter Try.func94, Try.ntmps94
  go_wp2_with fail
  go_region_held_law (fun w' => w'.cell? ⟨w.heap.size, 0, none⟩ = some (.int .i64 v) ∧ w'.cell? ⟨w.heap.size, 1, none⟩ = some (.slice A n c))
    (exact ⟨k0, k1⟩)
    (first
      | (go_at_call 88; refine (reffixed_any _ _ (u64 v) 8 (Below.refl _ _) hU.1 hU.2).mono ?_; rintro e w3 ⟨A3, n3, c3, rfl, t3, f3⟩; have hb3 : Below w.heap.size w w3 := Below.then_ (by first | exact hb0 | exact below_drew hb0) t3.below; have HB3 : Hid (Blk w3 w.heap.size 62 [.int .i64 v, .slice A n c]) := hide (Blk.under (by exact HBX.out) t3.below); have k0 := HB3.out.c0; have k1 := HB3.out.c1)
      | (go_at_call 101; refine (reftext_any _ _ A n c bs (Below.refl _ _) (HB.out.below hb3) (by have := HL.out; omega)).mono ?_; rintro e w4 ⟨A4, n4, c4, rfl, t4, f4⟩; have hb4 : Below w.heap.size w w4 := Below.then_ hb3 t4.below; have k0 : w4.cell? ⟨w.heap.size, 0, none⟩ = some (.int .i64 v) := cell_under t4.below HB3.out.c0; have k1 : w4.cell? ⟨w.heap.size, 1, none⟩ = some (.slice A n c) := cell_under t4.below HB3.out.c1)
      | (refine step_app (by rfl) _ (by rfl) _ _ (by rfl) _ A3 n3 c3 _ (by rfl) (t3.keep t4.below) A4 n4 c4 _ (by rfl) t4.bys (by have e1 := t3.len; have e2 := t4.len; have e3 := HL.out; have e4 := HB.out.1; rw [W8.out, dig_length] at e1; have e5 := txt_len bs; omega) ?_; intro A5 n5 c5 w5 t5 f5; have hb5 : Below w.heap.size w w5 := Below.then_ (by first | exact hb0 | exact below_drew hb0) t5.below; have k0 : w5.cell? ⟨w.heap.size, 0, none⟩ = some (.int .i64 v) := cell_under t5.below (by exact HBX.out.c0); have k1 : w5.cell? ⟨w.heap.size, 1, none⟩ = some (.slice A n c) := cell_under t5.below (by exact HBX.out.c1)))
  all_goals
    go_wp2
    go_ret
    rw [E.out, ← W8.out]
    first
    | exact MinePost.mk (t5.older hb0) (by intro ad hA5; exact (f5 (.inl (f3 (Fr.none _))) ad hA5) |> Nat.le_trans hb0.size)
    | exact MinePost.mk (t5.older (below_drew hb0)) (by intro ad hA5; exact (f5 (.inl (f3 (Fr.none _))) ad hA5) |> Nat.le_trans hb0.size)
end Go.Proofs.Ytbpmcnfmgaolnaa
/-
  coin: the same output; the same coin (the document's).
-/
namespace Go.Proofs.Ytbpmcnfmgaolnaa
open Go.RowKit

theorem ba_eq_iff (a b : List Int) (ha : Byt a) (hb : Byt b) : ba a = ba b ↔ a = b := ⟨ba_inj a b ha hb, fun h => by rw [h]⟩
theorem ba_beq (a b : List Int) (ha : Byt a) (hb : Byt b) : ((ba a).toList == (ba b).toList) = decide (a = b) := by
  have e : ((ba a).toList = (ba b).toList) ↔ a = b := by
    rw [← ba_eq_iff a b ha hb, ByteArray.toList_eq, ByteArray.toList_eq]
    constructor
    · intro h
      have : (ba a).data = (ba b).data := Array.ext' h
      cases h1 : ba a with | mk x => cases h2 : ba b with | mk y => rw [h1, h2] at this; simp at this; rw [this]
    · intro h; rw [h]
  rw [Bool.eq_iff_iff]
  simp [e]
set_option maxHeartbeats 1000000 in
theorem Equal_any (w : World) (A B : Option Addr) (n c m d : Nat) (xs ys : List Int) (hA : Bys w A n xs) (hB : Bys w B m ys) :
    Calls Try.prog 133 #[.slice A n c, .slice B m d] w fun e w' => e = .returned (.bool (decide (xs = ys))) ∧ w = w' := by
  have s1 := run_str w A n c _ hA
  have s2 := run_str w B m d _ hB
  have E : Hid (((ba xs).toList == (ba ys).toList) = decide (xs = ys)) := hide (ba_beq xs ys hA.2.1 hB.2.1)
  clear hA hB
  generalize ba xs = S at s1 E
  generalize ba ys = T at s2 E
  go_enter Try.func133, Try.ntmps133
  go_wp2
  go_ret
  exact ⟨by rw [← E.out]; rfl, rfl⟩
def OutD.same (a b : OutD) : Bool := decide (a.value = b.value ∧ a.lock = b.lock)
set_option maxHeartbeats 1000000 in
set_option maxRecDepth 100000 in
theorem refSame_any (w : World) (a b : OutV) (ha : a.Fine w) (hb : b.Fine w) :
    Calls Try.prog 95 #[.agg #[.int .i64 a.v, .slice a.A a.n a.c], .agg #[.int .i64 b.v, .slice b.A b.n b.c]] w fun e w' => e = .returned (.bool (a.d.same b.d)) ∧ Below w.heap.size w w' := by
  obtain ⟨v, A, n, c, xs⟩ := a
  obtain ⟨u, B, m, d, ys⟩ := b
  obtain ⟨hv, hA, _⟩ := ha
  obtain ⟨hu, hB, _⟩ := hb
  simp only at hv hu hA hB
  have hb1 : Below w.heap.size w ((w.alloc (.cells #[.int .i64 v, .slice A n c] 62)).alloc (.cells #[.int .i64 u, .slice B m d] 62)) := below_alloc (below_alloc (Below.refl _ _) _) _
  have s1 := run_str _ A n c _ (hA.below hb1)
  have s2 := run_str _ B m d _ (hB.below hb1)
  have E : Hid (((ba xs).toList == (ba ys).toList) = decide (xs = ys)) := hide (ba_beq xs ys hA.2.1 hB.2.1)
  clear hA hB
  generalize ba xs = S at s1 E
  generalize ba ys = T at s2 E
  by_cases h : v = u
  · subst h
    go_enter Try.func95, Try.ntmps95
    go_wp2
    go_ret
    exact ⟨by have e : OutD.same (OutV.d ⟨v, A, n, c, xs⟩) (OutV.d ⟨v, B, m, d, ys⟩) = decide (xs = ys) := (by simp [OutD.same, OutV.d]); rw [e, ← E.out]; rfl, hb1⟩
  · have h' : (v == u) = false := by simpa using h
    go_enter Try.func95, Try.ntmps95
    go_wp2
    go_ret
    exact ⟨by have e : OutD.same (OutV.d ⟨v, A, n, c, xs⟩) (OutV.d ⟨u, B, m, d, ys⟩) = false := (by simp [OutD.same, OutV.d, h]); rw [e]; rfl, hb1⟩
set_option maxHeartbeats 1000000 in
set_option maxRecDepth 100000 in
theorem Same_any (w : World) (a b : OutV) (ha : a.Fine w) (hb : b.Fine w) :
    Calls Try.prog 105 #[.agg #[.int .i64 a.v, .slice a.A a.n a.c], .agg #[.int .i64 b.v, .slice b.A b.n b.c]] w fun e w' => e = .returned (.bool (a.d.same b.d)) ∧ Below w.heap.size w w' := by
  obtain ⟨v, A, n, c, xs⟩ := a
  obtain ⟨u, B, m, d, ys⟩ := b
  obtain ⟨hv, hA, _⟩ := ha
  obtain ⟨hu, hB, _⟩ := hb
  simp only at hv hu hA hB
  have hb1 : Below w.heap.size w ((w.alloc (.cells #[.int .i64 v, .slice A n c] 62)).alloc (.cells #[.int .i64 u, .slice B m d] 62)) := below_alloc (below_alloc (Below.refl _ _) _) _
  have HA := hide (hA.below hb1)
  have HB := hide (hB.below hb1)
  clear hA hB
  by_cases h : v = u
  · subst h
    go_enter Try.func105, Try.ntmps105
    go_wp2_with (go_at_call 133; refine (Equal_any _ A B n c m d xs ys HA.out HB.out).mono ?_; rintro e w' ⟨rfl, rfl⟩)
    go_ret
    exact ⟨by have e : OutD.same (OutV.d ⟨v, A, n, c, xs⟩) (OutV.d ⟨v, B, m, d, ys⟩) = decide (xs = ys) := (by simp [OutD.same, OutV.d]); rw [e]; rfl, hb1⟩
  · have h' : (v == u) = false := by simpa using h
    go_enter Try.func105, Try.ntmps105
    go_wp2
    go_ret
    exact ⟨by have e : OutD.same (OutV.d ⟨v, A, n, c, xs⟩) (OutV.d ⟨u, B, m, d, ys⟩) = false := (by simp [OutD.same, OutV.d, h]); rw [e]; rfl, hb1⟩
/-- A coin in memory. -/
structure CoinV where
  out : OutV
  h : Int
  base : Bool
def CoinV.d (c : CoinV) : CoinD := ⟨c.out.d, c.h, c.base⟩
def CoinV.val (c : CoinV) : Value := .agg #[.int .i64 c.out.v, .slice c.out.A c.out.n c.out.c, .int .i64 c.h, .bool c.base]
structure CoinV.Fine (w : World) (c : CoinV) : Prop where
  out : c.out.Fine w
  h : -9223372036854775808 ≤ c.h ∧ c.h ≤ 9223372036854775807
def CoinD.same (a b : CoinD) : Bool := decide (a.out.same b.out = true ∧ a.height = b.height ∧ a.base = b.base)
set_option maxHeartbeats 2000000 in
set_option maxRecDepth 100000 in
theorem SameCoin_any (w : World) (a b : CoinV) (ha : a.Fine w) (hb : b.Fine w) :
    Calls Try.prog 50 #[a.val, b.val] w fun e w' => e = .returned (.bool (a.d.same b.d)) ∧ Below w.heap.size w w' := by
  obtain ⟨⟨v, A, n, c, xs⟩, h, p⟩ := a
  obtain ⟨⟨u, B, m, d, ys⟩, k, q⟩ := b
  obtain ⟨hv, hh⟩ := ha
  obtain ⟨hu, hk⟩ := hb
  simp only at hv hh hu hk
  have hb1 : Below w.heap.size w ((w.alloc (.cells #[.int .i64 v, .slice A n c, .int .i64 h, .bool p] 86)).alloc (.cells #[.int .i64 u, .slice B m d, .int .i64 k, .bool q] 86)) := below_alloc (below_alloc (Below.refl _ _) _) _
  have HA := hide (hv.below hb1)
  have HB := hide (hu.below hb1)
  obtain ⟨S, hS⟩ : ∃ S, S = OutD.same ⟨v, xs⟩ ⟨u, ys⟩ := ⟨_, rfl⟩
  have E : Hid (CoinD.same (CoinV.d ⟨⟨v, A, n, c, xs⟩, h, p⟩) (CoinV.d ⟨⟨u, B, m, d, ys⟩, k, q⟩) = (S && decide (h = k) && decide (p = q))) := hide (by
    rw [hS]; simp only [CoinD.same, CoinV.d, OutV.d]; by_cases h1 : OutD.same ⟨v, xs⟩ ⟨u, ys⟩ = true <;> by_cases h2 : h = k <;> by_cases h3 : p = q <;> simp [h1, h2, h3])
  clear hv hu
  show Calls Try.prog 50 #[.agg #[.int .i64 v, .slice A n c, .int .i64 h, .bool p], .agg #[.int .i64 u, .slice B m d, .int .i64 k, .bool q]] w _
  have BB := Blk.new (w.alloc (.cells #[.int .i64 v, .slice A n c, .int .i64 h, .bool p] 86)) 86 [.int .i64 u, .slice B m d, .int .i64 k, .bool q]
  have BA := (Blk.new w 86 [.int .i64 v, .slice A n c, .int .i64 h, .bool p]).alloc (.cells #[.int .i64 u, .slice B m d, .int .i64 k, .bool q] 86)
  rw [World.size_alloc] at BB
  have HBA := hide BA
  have HBB := hide BB
  clear BA BB
  go_enter Try.func50, Try.ntmps50
  go_wp2_with fail
  refine (refSame_any _ ⟨v, A, n, c, xs⟩ ⟨u, B, m, d, ys⟩ HA.out HB.out).mono ?_
  rintro e w2 ⟨rfl, hb2⟩
  have hb3 := Below.then_ hb1 hb2
  have c2 := (Blk.under HBA.out hb2).c2
  have c3 := (Blk.under HBA.out hb2).c3
  have d2 := (Blk.under HBB.out hb2).c2
  have d3 := (Blk.under HBB.out hb2).c3
  rw [show OutD.same (OutV.d ⟨v, A, n, c, xs⟩) (OutV.d ⟨u, B, m, d, ys⟩) = S from hS.symm]
  clear hS hb1 hb2 HA HB HBA HBB
  cases S
  · go_wp2
    go_ret
    exact ⟨by rw [E.out]; rfl, hb3⟩
  · by_cases h1 : h = k
    · subst h1
      cases p <;> cases q
      all_goals
        go_wp2
        go_ret
        exact ⟨by rw [E.out]; simp, hb3⟩
    · have h2 : (h == k) = false := by simpa using h1
      have h3 := hide h1
      clear h1
      go_wp2
      go_ret
      exact ⟨by rw [E.out]; simp [h3.out], hb3⟩
def CoinD.n64 (c : CoinD) : Int := (2 * c.height + (if c.base then 1 else 0)) % 18446744073709551616
theorem n64_eq (c : CoinD) : c.n64 = (2 * c.height + (if c.base then 1 else 0)) % 18446744073709551616 := rfl
def CoinD.bytes64 (c : CoinD) : List Int := cnt c.n64.toNat ++ c.out.bytes
set_option maxHeartbeats 4000000 in
set_option maxRecDepth 100000 in
theorem CoinBytes_any (w : World) (a : CoinV) (ha : a.Fine w) (hl : a.out.n ≤ 1000000) :
    Calls Try.prog 51 #[a.val] w (MinePost 5 w none a.d.bytes64) := by
  obtain ⟨⟨v, A, n, c, xs⟩, h, p⟩ := a
  obtain ⟨hv, hh⟩ := ha
  simp only at hv hh hl
  have hb1 : Below w.heap.size w (w.alloc (.cells #[.int .i64 v, .slice A n c, .int .i64 h, .bool p] 86)) := below_alloc (Below.refl _ _) _
  have HA := hide (hv.below hb1)
  have HL := hide hl
  have BA := Blk.new w 86 [.int .i64 v, .slice A n c, .int .i64 h, .bool p]
  have HBA := hide BA
  have k0 := BA.c0
  have k1 := BA.c1
  have hu := u64_wrap h
  have hlen := hide (show (OutD.bytes (OutV.d ⟨v, A, n, c, xs⟩)).length ≤ n + 17 from by
    have h1 := txt_len xs
    have h2 := hv.bys.1
    simp only [OutD.bytes, OutV.d, List.length_append, dig_length] at *
    omega)
  have E0 := n64_eq (CoinV.d ⟨⟨v, A, n, c, xs⟩, h, p⟩)
  show Calls Try.prog 51 #[.agg #[.int .i64 v, .slice A n c, .int .i64 h, .bool p]] w _
  obtain ⟨M, hM⟩ : ∃ M, M = (2 * h) % 18446744073709551616 := ⟨_, rfl⟩
  have hm : IntKind.u64.wrap (2 * u64 h) = M := by rw [IntKind.wrap_u64, hM]; unfold u64; omega
  obtain ⟨OB, hOB⟩ : ∃ OB, OB = OutD.bytes (OutV.d ⟨v, A, n, c, xs⟩) := ⟨_, rfl⟩
  obtain ⟨N, hN, hN0, hN1, hm2⟩ : ∃ N : Int, N = CoinD.n64 (CoinV.d ⟨⟨v, A, n, c, xs⟩, h, p⟩) ∧ 0 ≤ N ∧ N < 18446744073709551616 ∧ (p = true → IntKind.u64.wrap (M + 1) = N) ∧ (p = false → M = N) := by
    refine ⟨_, rfl, by unfold CoinD.n64; omega, by unfold CoinD.n64; omega, fun hp => ?_, fun hp => ?_⟩
    · rw [IntKind.wrap_u64, hM, hp]; simp only [CoinD.n64, CoinV.d, if_true]; omega
    · rw [hM, hp]; simp [CoinD.n64, CoinV.d]
  have E : Hid (CoinD.bytes64 (CoinV.d ⟨⟨v, A, n, c, xs⟩, h, p⟩) = cnt N.toNat ++ OB) := hide (by rw [hOB, hN]; rfl)
  have HN := hide (And.intro hN0 hN1)
  rw [← hOB] at hlen
  have HOB := hide hOB
  clear hl hv BA hM hN hN0 hN1 hOB
  go_enter Try.func51, Try.ntmps51
  cases p
  · have hMN : M = N := hm2.2 rfl
    rw [hMN] at hm
    clear hMN
    go_wp2_with fail
    go_region_held_law (fun w' => w'.cell? ⟨w.heap.size, 0, none⟩ = some (.int .i64 v) ∧ w'.cell? ⟨w.heap.size, 1, none⟩ = some (.slice A n c))
      (exact ⟨k0, k1⟩)
      (first
        | (go_at_call 74; (refine (Count_any _ _ none 0 0 [] N (Below.refl _ _) (Bys.nil _ _) (Nat.le_refl _) HN.out.1 HN.out.2 (by decide)).mono ?_; rintro e w3 ⟨A3, n3, c3, rfl, t3, f3⟩; have hb3 : Below w.heap.size w w3 := Below.then_ (by first | exact hb1 | exact below_drew hb1) t3.below; have HB3 : Hid (Blk w3 w.heap.size 86 [.int .i64 v, .slice A n c, .int .i64 h, .bool false]) := hide (Blk.under (by exact HBA.out) t3.below); have k0 := HB3.out.c0; have k1 := HB3.out.c1; have HA3 : Hid (OutV.Fine w3 ⟨v, A, n, c, xs⟩) := hide (by first | exact (HA.out.below ((Below.refl _ _).drew)).below t3.below | exact HA.out.below t3.below)))
        | (go_at_call 96; refine (OutBytes_any _ ⟨v, A, n, c, xs⟩ HA3.out HL.out).mono ?_; rintro e w4 ⟨A4, n4, c4, rfl, t4, f4⟩; rw [← HOB.out] at t4; have hb4 : Below w.heap.size w w4 := Below.then_ hb3 t4.below; have k0 : w4.cell? ⟨w.heap.size, 0, none⟩ = some (.int .i64 v) := cell_under t4.below HB3.out.c0; have k1 : w4.cell? ⟨w.heap.size, 1, none⟩ = some (.slice A n c) := cell_under t4.below HB3.out.c1)
        | (refine step_app (by rfl) _ (by rfl) _ _ (by rfl) _ A3 n3 c3 _ (by rfl) (t3.keep t4.below) A4 n4 c4 _ (by rfl) t4.bys (by have e1 := t3.len; have e2 := t4.len; have e3 := HL.out; have e5 := hlen.out; have e6 := (cnt_length N.toNat).2; (try simp only [List.nil_append] at e1); omega) ?_; intro A5 n5 c5 w5 t5 f5; have hb5 : Below w.heap.size w w5 := Below.then_ (by first | exact hb1 | exact below_drew hb1) t5.below; have k0 : w5.cell? ⟨w.heap.size, 0, none⟩ = some (.int .i64 v) := cell_under t5.below (by exact HBA.out.c0); have k1 : w5.cell? ⟨w.heap.size, 1, none⟩ = some (.slice A n c) := cell_under t5.below (by exact HBA.out.c1)))
    all_goals
      go_wp2
      go_ret
      rw [E.out]
      first
      | exact MinePost.mk (t5.older hb1) (by intro ad hA5; exact (f5 (.inl (f3 (Fr.none _))) ad hA5) |> Nat.le_trans hb1.size)
      | exact MinePost.mk (t5.older (below_drew hb1)) (by intro ad hA5; exact (f5 (.inl (f3 (Fr.none _))) ad hA5) |> Nat.le_trans hb1.size)
  · have hm3 := hm2.1 rfl
    go_wp2_with fail
    go_region_held_law (fun w' => w'.cell? ⟨w.heap.size, 0, none⟩ = some (.int .i64 v) ∧ w'.cell? ⟨w.heap.size, 1, none⟩ = some (.slice A n c))
      (exact ⟨k0, k1⟩)
      (first
        | (go_at_call 74; (refine (Count_any _ _ none 0 0 [] N (Below.refl _ _) (Bys.nil _ _) (Nat.le_refl _) HN.out.1 HN.out.2 (by decide)).mono ?_; rintro e w3 ⟨A3, n3, c3, rfl, t3, f3⟩; have hb3 : Below w.heap.size w w3 := Below.then_ (by first | exact hb1 | exact below_drew hb1) t3.below; have HB3 : Hid (Blk w3 w.heap.size 86 [.int .i64 v, .slice A n c, .int .i64 h, .bool true]) := hide (Blk.under (by exact HBA.out) t3.below); have k0 := HB3.out.c0; have k1 := HB3.out.c1; have HA3 : Hid (OutV.Fine w3 ⟨v, A, n, c, xs⟩) := hide (by first | exact (HA.out.below ((Below.refl _ _).drew)).below t3.below | exact HA.out.below t3.below)))
        | (go_at_call 96; refine (OutBytes_any _ ⟨v, A, n, c, xs⟩ HA3.out HL.out).mono ?_; rintro e w4 ⟨A4, n4, c4, rfl, t4, f4⟩; rw [← HOB.out] at t4; have hb4 : Below w.heap.size w w4 := Below.then_ hb3 t4.below; have k0 : w4.cell? ⟨w.heap.size, 0, none⟩ = some (.int .i64 v) := cell_under t4.below HB3.out.c0; have k1 : w4.cell? ⟨w.heap.size, 1, none⟩ = some (.slice A n c) := cell_under t4.below HB3.out.c1)
        | (refine step_app (by rfl) _ (by rfl) _ _ (by rfl) _ A3 n3 c3 _ (by rfl) (t3.keep t4.below) A4 n4 c4 _ (by rfl) t4.bys (by have e1 := t3.len; have e2 := t4.len; have e3 := HL.out; have e5 := hlen.out; have e6 := (cnt_length N.toNat).2; (try simp only [List.nil_append] at e1); omega) ?_; intro A5 n5 c5 w5 t5 f5; have hb5 : Below w.heap.size w w5 := Below.then_ (by first | exact hb1 | exact below_drew hb1) t5.below; have k0 : w5.cell? ⟨w.heap.size, 0, none⟩ = some (.int .i64 v) := cell_under t5.below (by exact HBA.out.c0); have k1 : w5.cell? ⟨w.heap.size, 1, none⟩ = some (.slice A n c) := cell_under t5.below (by exact HBA.out.c1)))
    all_goals
      go_wp2
      go_ret
      rw [E.out]
      first
      | exact MinePost.mk (t5.older hb1) (by intro ad hA5; exact (f5 (.inl (f3 (Fr.none _))) ad hA5) |> Nat.le_trans hb1.size)
      | exact MinePost.mk (t5.older (below_drew hb1)) (by intro ad hA5; exact (f5 (.inl (f3 (Fr.none _))) ad hA5) |> Nat.le_trans hb1.size)
set_option maxHeartbeats 4000000 in
set_option maxRecDepth 100000 in
theorem refCoinBytes_any (w : World) (a : CoinV) (ha : a.Fine w) (hl : a.out.n ≤ 1000000) :
    Calls Try.prog 49 #[a.val] w (MinePost 5 w none a.d.bytes64) := by
  obtain ⟨⟨v, A, n, c, xs⟩, h, p⟩ := a
  obtain ⟨hv, hh⟩ := ha
  simp only at hv hh hl
  have hb1 : Below w.heap.size w (w.alloc (.cells #[.int .i64 v, .slice A n c, .int .i64 h, .bool p] 86)) := below_alloc (Below.refl _ _) _
  have HA := hide (hv.below hb1)
  have HL := hide hl
  have BA := Blk.new w 86 [.int .i64 v, .slice A n c, .int .i64 h, .bool p]
  have HBA := hide BA
  have k0 := BA.c0
  have k1 := BA.c1
  have hu := u64_wrap h
  have hlen := hide (show (OutD.bytes (OutV.d ⟨v, A, n, c, xs⟩)).length ≤ n + 17 from by
    have h1 := txt_len xs
    have h2 := hv.bys.1
    simp only [OutD.bytes, OutV.d, List.length_append, dig_length] at *
    omega)
  have E0 := n64_eq (CoinV.d ⟨⟨v, A, n, c, xs⟩, h, p⟩)
  show Calls Try.prog 49 #[.agg #[.int .i64 v, .slice A n c, .int .i64 h, .bool p]] w _
  obtain ⟨M, hM⟩ : ∃ M, M = (2 * h) % 18446744073709551616 := ⟨_, rfl⟩
  have hm : IntKind.u64.wrap (u64 h * 2) = M := by rw [IntKind.wrap_u64, hM]; unfold u64; omega
  obtain ⟨OB, hOB⟩ : ∃ OB, OB = OutD.bytes (OutV.d ⟨v, A, n, c, xs⟩) := ⟨_, rfl⟩
  obtain ⟨N, hN, hN0, hN1, hm2⟩ : ∃ N : Int, N = CoinD.n64 (CoinV.d ⟨⟨v, A, n, c, xs⟩, h, p⟩) ∧ 0 ≤ N ∧ N < 18446744073709551616 ∧ (p = true → IntKind.u64.wrap (M + 1) = N) ∧ (p = false → M = N) := by
    refine ⟨_, rfl, by unfold CoinD.n64; omega, by unfold CoinD.n64; omega, fun hp => ?_, fun hp => ?_⟩
    · rw [IntKind.wrap_u64, hM, hp]; simp only [CoinD.n64, CoinV.d, if_true]; omega
    · rw [hM, hp]; simp [CoinD.n64, CoinV.d]
  have E : Hid (CoinD.bytes64 (CoinV.d ⟨⟨v, A, n, c, xs⟩, h, p⟩) = cnt N.toNat ++ OB) := hide (by rw [hOB, hN]; rfl)
  have HN := hide (And.intro hN0 hN1)
  rw [← hOB] at hlen
  have HOB := hide hOB
  clear hl hv BA hM hN hN0 hN1 hOB
  go_enter Try.func49, Try.ntmps49
  cases p
  · have hMN : M = N := hm2.2 rfl
    rw [hMN] at hm
    clear hMN
    go_wp2_with fail
    go_region_held_law (fun w' => w'.cell? ⟨w.heap.size, 0, none⟩ = some (.int .i64 v) ∧ w'.cell? ⟨w.heap.size, 1, none⟩ = some (.slice A n c))
      (exact ⟨k0, k1⟩)
      (first
        | (go_at_call 71; (refine (refcount_any _ _ N (Below.refl _ _) HN.out.1 HN.out.2).mono ?_; rintro e w3 ⟨A3, n3, c3, rfl, t3, f3⟩; have hb3 : Below w.heap.size w w3 := Below.then_ (by first | exact hb1 | exact below_drew hb1) t3.below; have HB3 : Hid (Blk w3 w.heap.size 86 [.int .i64 v, .slice A n c, .int .i64 h, .bool false]) := hide (Blk.under (by exact HBA.out) t3.below); have k0 := HB3.out.c0; have k1 := HB3.out.c1; have HA3 : Hid (OutV.Fine w3 ⟨v, A, n, c, xs⟩) := hide (by first | exact (HA.out.below ((Below.refl _ _).drew)).below t3.below | exact HA.out.below t3.below)))
        | (go_at_call 94; refine (refOutBytes_any _ ⟨v, A, n, c, xs⟩ HA3.out HL.out).mono ?_; rintro e w4 ⟨A4, n4, c4, rfl, t4, f4⟩; rw [← HOB.out] at t4; have hb4 : Below w.heap.size w w4 := Below.then_ hb3 t4.below; have k0 : w4.cell? ⟨w.heap.size, 0, none⟩ = some (.int .i64 v) := cell_under t4.below HB3.out.c0; have k1 : w4.cell? ⟨w.heap.size, 1, none⟩ = some (.slice A n c) := cell_under t4.below HB3.out.c1)
        | (refine step_app (by rfl) _ (by rfl) _ _ (by rfl) _ A3 n3 c3 _ (by rfl) (t3.keep t4.below) A4 n4 c4 _ (by rfl) t4.bys (by have e1 := t3.len; have e2 := t4.len; have e3 := HL.out; have e5 := hlen.out; have e6 := (cnt_length N.toNat).2; (try simp only [List.nil_append] at e1); omega) ?_; intro A5 n5 c5 w5 t5 f5; have hb5 : Below w.heap.size w w5 := Below.then_ (by first | exact hb1 | exact below_drew hb1) t5.below; have k0 : w5.cell? ⟨w.heap.size, 0, none⟩ = some (.int .i64 v) := cell_under t5.below (by exact HBA.out.c0); have k1 : w5.cell? ⟨w.heap.size, 1, none⟩ = some (.slice A n c) := cell_under t5.below (by exact HBA.out.c1)))
    all_goals
      go_wp2
      go_ret
      rw [E.out]
      first
      | exact MinePost.mk (t5.older hb1) (by intro ad hA5; exact (f5 (.inl (f3 (Fr.none _))) ad hA5) |> Nat.le_trans hb1.size)
      | exact MinePost.mk (t5.older (below_drew hb1)) (by intro ad hA5; exact (f5 (.inl (f3 (Fr.none _))) ad hA5) |> Nat.le_trans hb1.size)
  · have hm3 := hm2.1 rfl
    go_wp2_with fail
    go_region_held_law (fun w' => w'.cell? ⟨w.heap.size, 0, none⟩ = some (.int .i64 v) ∧ w'.cell? ⟨w.heap.size, 1, none⟩ = some (.slice A n c))
      (exact ⟨k0, k1⟩)
      (first
        | (go_at_call 71; (refine (refcount_any _ _ N (Below.refl _ _) HN.out.1 HN.out.2).mono ?_; rintro e w3 ⟨A3, n3, c3, rfl, t3, f3⟩; have hb3 : Below w.heap.size w w3 := Below.then_ (by first | exact hb1 | exact below_drew hb1) t3.below; have HB3 : Hid (Blk w3 w.heap.size 86 [.int .i64 v, .slice A n c, .int .i64 h, .bool true]) := hide (Blk.under (by exact HBA.out) t3.below); have k0 := HB3.out.c0; have k1 := HB3.out.c1; have HA3 : Hid (OutV.Fine w3 ⟨v, A, n, c, xs⟩) := hide (by first | exact (HA.out.below ((Below.refl _ _).drew)).below t3.below | exact HA.out.below t3.below)))
        | (go_at_call 94; refine (refOutBytes_any _ ⟨v, A, n, c, xs⟩ HA3.out HL.out).mono ?_; rintro e w4 ⟨A4, n4, c4, rfl, t4, f4⟩; rw [← HOB.out] at t4; have hb4 : Below w.heap.size w w4 := Below.then_ hb3 t4.below; have k0 : w4.cell? ⟨w.heap.size, 0, none⟩ = some (.int .i64 v) := cell_under t4.below HB3.out.c0; have k1 : w4.cell? ⟨w.heap.size, 1, none⟩ = some (.slice A n c) := cell_under t4.below HB3.out.c1)
        | (refine step_app (by rfl) _ (by rfl) _ _ (by rfl) _ A3 n3 c3 _ (by rfl) (t3.keep t4.below) A4 n4 c4 _ (by rfl) t4.bys (by have e1 := t3.len; have e2 := t4.len; have e3 := HL.out; have e5 := hlen.out; have e6 := (cnt_length N.toNat).2; (try simp only [List.nil_append] at e1); omega) ?_; intro A5 n5 c5 w5 t5 f5; have hb5 : Below w.heap.size w w5 := Below.then_ (by first | exact hb1 | exact below_drew hb1) t5.below; have k0 : w5.cell? ⟨w.heap.size, 0, none⟩ = some (.int .i64 v) := cell_under t5.below (by exact HBA.out.c0); have k1 : w5.cell? ⟨w.heap.size, 1, none⟩ = some (.slice A n c) := cell_under t5.below (by exact HBA.out.c1)))
    all_goals
      go_wp2
      go_ret
      rw [E.out]
      first
      | exact MinePost.mk (t5.older hb1) (by intro ad hA5; exact (f5 (.inl (f3 (Fr.none _))) ad hA5) |> Nat.le_trans hb1.size)
      | exact MinePost.mk (t5.older (below_drew hb1)) (by intro ad hA5; exact (f5 (.inl (f3 (Fr.none _))) ad hA5) |> Nat.le_trans hb1.size)
end Go.Proofs.Ytbpmcnfmgaolnaa
/-
  References: thirty-two bytes and a number, in memory and as a value.
-/
namespace Go.Proofs.Ytbpmcnfmgaolnaa
open Go.RowKit

structure RefD where
  id : List Int
  at_ : Int
def RefD.cells (r : RefD) : List Value := r.id.map (Value.int .u8) ++ [.int .u32 r.at_]
structure RefD.Fine (r : RefD) : Prop where
  len : r.id.length = 32
  byt : Byt r.id
  at0 : 0 ≤ r.at_
  at1 : r.at_ < 4294967296
def RefD.bytes (r : RefD) : List Int := r.id ++ dig r.at_.toNat 4
theorem RefD.cells_len {r : RefD} (h : r.Fine) : r.cells.length = 33 := by simp [RefD.cells, h.len]
theorem RefD.one (r : RefD) : ∀ v ∈ r.cells, v.oneCell' = true := by
  intro v hv
  simp only [RefD.cells, List.mem_append, List.mem_map, List.mem_singleton] at hv
  rcases hv with ⟨x, _, rfl⟩ | rfl <;> rfl
theorem RefD.cells_inj {a b : RefD} (ha : a.Fine) (hb : b.Fine) (h : a.cells = b.cells) : a = b := by
  obtain ⟨x, n⟩ := a
  obtain ⟨y, m⟩ := b
  have hl : (x.map (Value.int .u8)).length = (y.map (Value.int .u8)).length := by
    have h1 := ha.len
    have h2 := hb.len
    simp only at h1 h2
    simp [h1, h2]
  obtain ⟨h1, h2⟩ := List.append_inj h hl
  have e1 : x = y := by
    have hi : Function.Injective (Value.int .u8) := fun a b h => by injection h
    exact (List.map_inj_right (fun a b h => hi h)).1 h1
  have e2 : n = m := by simpa using h2
  rw [e1, e2]
/-! ### A struct of two or three parts, built -/
section
variable {P : Program}
theorem run_build2 (t : TypeId) (f0 f1 : Field) (k n : Nat) (hu : P.underlying t = some (.struct #[f0, f1])) (ho0 : f0.offset = 0) (ho1 : f1.offset = k)
    (hs0 : (P.info? f0.type).map (·.size) = some k) (hs1 : (P.info? f1.type).map (·.size) = some n) (hz : (P.info? t).map (fun i => i.zero.map (fun z => z.cells.size)) = some (some (k + n)))
    (v0 v1 : Value) (vs0 vs1 : List Value) (h0 : v0.cells = vs0.toArray) (h1 : v1.cells = vs1.toArray) (l0 : vs0.length = k) (l1 : vs1.length = n) (w : World) :
    (Instr.build t #[(0, v0), (1, v1)]).run P w = .ok (.agg (vs0 ++ vs1).toArray) w := by
  obtain ⟨i, z, hi, hzz, zs, hzs, hzl⟩ := zero_parts hz
  unfold Instr.build
  have hm : (#[f0, f1].mapM fun f => do pure (f.offset, ← sizeOf f.type) : Sem (Array (Nat × Nat))).run P w = .ok #[(0, k), (k, n)] w := by
    simp [ho0, ho1, run_size hs0, run_size hs1]
  have hf : Instr.fill (fun j => #[(0, k), (k, n)][j]?) zs.toArray [(0, v0), (1, v1)] = some (vs0 ++ vs1).toArray := by
    rw [fill_one _ zs 0 v0 vs0 0 _ (by rw [l0]; rfl) h0 (by omega)]
    rw [fill_one _ (lay zs 0 vs0) 1 v1 vs1 k _ (by rw [l1]; rfl) h1 (by rw [lay_length]; omega)]
    rw [Instr.fill]
    congr 2
    rw [lay_eq _ _ _ (by rw [lay_length]; omega), lay_eq zs 0 vs0 (by omega)]
    have e1 : (zs.take 0 ++ vs0 ++ zs.drop (0 + vs0.length)).take k = vs0 := by rw [List.take_zero, List.nil_append, List.take_append_of_le_length (by omega), List.take_of_length_le (by omega)]
    have e2 : (zs.take 0 ++ vs0 ++ zs.drop (0 + vs0.length)).drop (k + vs1.length) = [] := by
      apply List.drop_of_length_le
      simp
      omega
    rw [e1, e2, List.append_nil]
  simp only [Sem.run_bind, run_zero hi hzz, Result.andThen_ok, run_underlying hu, hm, hzs]
  simp only [hf]
  simp
theorem run_build3 (t : TypeId) (f0 f1 f2 : Field) (k n m : Nat) (hu : P.underlying t = some (.struct #[f0, f1, f2])) (ho0 : f0.offset = 0) (ho1 : f1.offset = k) (ho2 : f2.offset = k + n)
    (hs0 : (P.info? f0.type).map (·.size) = some k) (hs1 : (P.info? f1.type).map (·.size) = some n) (hs2 : (P.info? f2.type).map (·.size) = some m) (hz : (P.info? t).map (fun i => i.zero.map (fun z => z.cells.size)) = some (some (k + n + m)))
    (v0 v1 v2 : Value) (vs0 vs1 vs2 : List Value) (h0 : v0.cells = vs0.toArray) (h1 : v1.cells = vs1.toArray) (h2 : v2.cells = vs2.toArray) (l0 : vs0.length = k) (l1 : vs1.length = n) (l2 : vs2.length = m) (w : World) :
    (Instr.build t #[(0, v0), (1, v1), (2, v2)]).run P w = .ok (.agg (vs0 ++ vs1 ++ vs2).toArray) w := by
  obtain ⟨i, z, hi, hzz, zs, hzs, hzl⟩ := zero_parts hz
  unfold Instr.build
  have hm : (#[f0, f1, f2].mapM fun f => do pure (f.offset, ← sizeOf f.type) : Sem (Array (Nat × Nat))).run P w = .ok #[(0, k), (k, n), (k + n, m)] w := by
    simp [ho0, ho1, ho2, run_size hs0, run_size hs1, run_size hs2]
  have hf : Instr.fill (fun j => #[(0, k), (k, n), (k + n, m)][j]?) zs.toArray [(0, v0), (1, v1), (2, v2)] = some (vs0 ++ vs1 ++ vs2).toArray := by
    rw [fill_one _ zs 0 v0 vs0 0 _ (by rw [l0]; rfl) h0 (by omega)]
    rw [fill_one _ (lay zs 0 vs0) 1 v1 vs1 k _ (by rw [l1]; rfl) h1 (by rw [lay_length]; omega)]
    rw [fill_one _ (lay (lay zs 0 vs0) k vs1) 2 v2 vs2 (k + n) _ (by rw [l2]; rfl) h2 (by rw [lay_length, lay_length]; omega)]
    rw [Instr.fill]
    congr 2
    rw [lay_eq _ _ _ (by rw [lay_length, lay_length]; omega), lay_eq (lay zs 0 vs0) k vs1 (by rw [lay_length]; omega), lay_eq zs 0 vs0 (by omega)]
    have e1 : (zs.take 0 ++ vs0 ++ zs.drop (0 + vs0.length)).take k = vs0 := by rw [List.take_zero, List.nil_append, List.take_append_of_le_length (by omega), List.take_of_length_le (by omega)]
    rw [e1]
    have e2 : (vs0 ++ vs1 ++ (zs.take 0 ++ vs0 ++ zs.drop (0 + vs0.length)).drop (k + vs1.length)).take (k + n) = vs0 ++ vs1 := by
      rw [List.take_append, List.take_of_length_le (by simp; omega)]
      have : k + n - (vs0 ++ vs1).length = 0 := by simp; omega
      rw [this, List.take_zero, List.append_nil]
    have e3 : (vs0 ++ vs1 ++ (zs.take 0 ++ vs0 ++ zs.drop (0 + vs0.length)).drop (k + vs1.length)).drop (k + n + vs2.length) = [] := by
      apply List.drop_of_length_le
      simp
      omega
    rw [e2, e3, List.append_nil]
  simp only [Sem.run_bind, run_zero hi hzz, Result.andThen_ok, run_underlying hu, hm, hzs]
  simp only [hf]
  simp
end
theorem wfu32 {n : Int} (h : (Lit.int .u32 n).wf = true) : 0 ≤ n ∧ n ≤ 4294967295 := by
  simp [Lit.wf, IntKind.min, IntKind.max, IntKind.signed, IntKind.bits] at h
  omega
end Go.Proofs.Ytbpmcnfmgaolnaa
/-
  What is sealed for references and hashes: built, loaded, compared.
-/
namespace Go.Proofs.Ytbpmcnfmgaolnaa
open Go.RowKit

theorem run_equalIn_row {P : Program} (w : World) (d : Nat) (t e : TypeId) (n : Nat) (k : IntKind) (ht : P.underlying t = some (.array n e)) (he : P.underlying e = some (.int k)) (hsz : ∀ w, (sizeOf e).run P w = .ok 1 w)
    (xs ys : List Int) (hx : xs.length = n) (hy : ys.length = n) :
    (Op.equalIn (d + 2) t (.agg (xs.map (Value.int k)).toArray) (.agg (ys.map (Value.int k)).toArray)).run P w = .ok (xs == ys) w := by
  have key : ((List.range xs.length).all fun i => xs.getD i 0 == ys.getD i 0) = (xs == ys) := by
    have : ∀ (xs ys : List Int), xs.length = ys.length → ((List.range xs.length).all fun i => xs.getD i 0 == ys.getD i 0) = (xs == ys) := by
      intro xs
      induction xs with
      | nil => intro ys h; cases ys with
        | nil => rfl
        | cons _ _ => simp at h
      | cons x xs ih =>
        intro ys h
        cases ys with
        | nil => simp at h
        | cons y ys =>
          have ih := ih ys (by simpa using h)
          rw [List.length_cons, List.range_succ_eq_map, List.all_cons, List.all_map]
          simp only [List.getD_cons_zero, Function.comp_def, List.getD_cons_succ, ih]
          simp [List.cons_beq_cons]
    exact this xs ys (hx.trans hy.symm)
  rw [← key, hx, List.range_eq_range', Op.equalIn]
  simp only [Sem.run_bind, run_underlying ht, Result.andThen_ok, hsz, Std.Legacy.Range.forIn_eq_forIn_range', Std.Legacy.Range.size, Nat.sub_zero, Nat.add_sub_cancel, Nat.div_one]
  have hl : ∀ i ∈ List.range' 0 n 1, i < n := fun i hi => by simpa using (List.mem_range'_1.1 hi).2
  generalize List.range' 0 n 1 = l at hl ⊢
  induction l with
  | nil => simp
  | cons i l ih =>
    have hi : i < n := hl i (by simp)
    have px : (part e (xs.map (Value.int k)).toArray (i * 1)).run P w = .ok (.int k (xs.getD i 0)) w := by
      simp [part, isAgg, run_underlying he, List.getD, List.getElem?_eq_getElem (show i < xs.length by omega)]
    have py : (part e (ys.map (Value.int k)).toArray (i * 1)).run P w = .ok (.int k (ys.getD i 0)) w := by
      simp [part, isAgg, run_underlying he, List.getD, List.getElem?_eq_getElem (show i < ys.length by omega)]
    have pe : (Op.equalIn (d + 1) e (.int k (xs.getD i 0)) (.int k (ys.getD i 0))).run P w = .ok (xs.getD i 0 == ys.getD i 0) w :=
      run_equalIn_int w d e k k _ _ he
    simp only [List.forIn_cons, Sem.run_bind, px, py, pe, Result.andThen_ok, List.all_cons]
    cases hb : (xs.getD i 0 == ys.getD i 0)
    · simp
    · simp only [Bool.not_true, Bool.false_eq_true, if_false, Sem.run_pure, Result.andThen_ok, Bool.true_and]
      exact ih fun j hj => hl j (by simp [hj])
def zeroR : RefD := ⟨List.replicate 32 0, 0⟩
theorem zeroR_fine : zeroR.Fine := ⟨by simp [zeroR], fun x hx => by have := List.eq_of_mem_replicate hx; omega, by decide, by decide⟩
set_option maxRecDepth 100000 in
theorem infoRef : (Try.prog.info? 58).map (fun i => i.zero.map (fun z => z.cells.size)) = some (some (32 + 1)) := by kernel_rfl
set_option maxRecDepth 100000 in
theorem zeroRef : (Try.prog.info? 58).map (·.zero) = some (some (.agg zeroR.cells.toArray)) := by kernel_rfl
set_option maxRecDepth 100000 in
theorem isRef : (Try.prog.info? 58).map (·.size) = some 33 := by kernel_rfl
set_option maxRecDepth 100000 in
theorem isHash : (Try.prog.info? 31).map (·.size) = some 32 := by kernel_rfl
theorem isU32 : (Try.prog.info? 27).map (·.size) = some 1 := by kernel_rfl
theorem isU8 : (Try.prog.info? 5).map (·.size) = some 1 := by kernel_rfl
/-! #### Built -/
def mkRef (parts : Array (Nat × Value)) : Sem Value := Instr.build 58 parts
theorem mkRef_fold (parts : Array (Nat × Value)) : Instr.build 58 parts = mkRef parts := rfl
theorem mkRef_run (bs : List Int) (n : Int) (hl : bs.length = 32) (w : World) : (mkRef #[(0, .agg (bs.map (Value.int .u8)).toArray), (1, .int .u32 n)]).run Try.prog w = .ok (.agg (⟨bs, n⟩ : RefD).cells.toArray) w :=
  run_build2 58 _ _ 32 1 Try.underlying58 rfl rfl isHash isU32 infoRef (.agg (bs.map (Value.int .u8)).toArray) (.int .u32 n) (bs.map (Value.int .u8)) [.int .u32 n] rfl rfl (by simpa using hl) rfl w
set_option maxRecDepth 100000 in
theorem mkRef_zero (w : World) : (mkRef #[]).run Try.prog w = .ok (.agg zeroR.cells.toArray) w := by kernel_rfl
/-! #### Loaded -/
def loadRef (a : Addr) : Sem Value := loadVar 58 a
theorem loadRef_fold (a : Addr) : loadVar 58 a = loadRef a := rfl
theorem loadRef_run (w : World) (b o : Nat) (r : RefD) (h : w.rangeAt b o r.cells) (hf : r.Fine) : (loadRef ⟨b, o, none⟩).run Try.prog w = .ok (.agg r.cells.toArray) w :=
  run_loadVar_mid w b o _ r.cells _ h Try.underlying58 rfl (by rw [isRef, RefD.cells_len hf])
def loadHash (a : Addr) : Sem Value := loadVar 31 a
theorem loadHash_fold (a : Addr) : loadVar 31 a = loadHash a := rfl
theorem loadHash_run (w : World) (b o : Nat) (bs : List Int) (h : w.rangeAt b o (bs.map (Value.int .u8))) (hl : bs.length = 32) : (loadHash ⟨b, o, none⟩).run Try.prog w = .ok (.agg (bs.map (Value.int .u8)).toArray) w :=
  run_loadVar_mid w b o _ (bs.map (Value.int .u8)) _ h Try.underlying31 rfl (by rw [isHash, List.length_map, hl])
/-! #### Compared -/
def eqlRef (x y : Value) : Sem Value := binOp .eql 58 x y
def neqRef (x y : Value) : Sem Value := binOp .neq 58 x y
theorem eqlRef_fold (x y : Value) : binOp .eql 58 x y = eqlRef x y := rfl
theorem neqRef_fold (x y : Value) : binOp .neq 58 x y = neqRef x y := rfl
theorem part_row {P : Program} {ty e : TypeId} {n : Nat} (ht : P.underlying ty = some (.array n e)) (hs : (P.info? ty).map (·.size) = some n) (w : World) (xs ys : List Value) (hl : xs.length = n) : (part ty (xs ++ ys).toArray 0).run P w = .ok (.agg xs.toArray) w := by
  have h1 : (isAgg ty).run P w = .ok true w := by simp [isAgg, run_underlying ht]
  unfold part
  simp only [Sem.run_bind, h1, Result.andThen_ok, if_true, run_size hs, Sem.run_pure]
  congr 2
  apply Array.ext'
  rw [Array.toList_extract]
  simp only [List.extract_eq_take_drop, List.drop_zero, Nat.zero_add, Nat.sub_zero]
  rw [List.take_append_of_le_length (by omega), List.take_of_length_le (by omega)]
theorem part_one {P : Program} {ty : TypeId} {k : IntKind} (ht : P.underlying ty = some (.int k)) (w : World) (xs : List Value) (n : Nat) (v : Value) (hl : xs.length = n) : (part ty (xs ++ [v]).toArray n).run P w = .ok v w := by
  have h1 : (isAgg ty).run P w = .ok false w := by simp [isAgg, run_underlying ht]
  have h2 : (xs ++ [v]).toArray[n]? = some v := by subst hl; simp
  unfold part
  simp only [Sem.run_bind, h1, Result.andThen_ok, Bool.false_eq_true, if_false, h2, Sem.run_pure]
theorem refEq (w : World) (d : Nat) (a b : RefD) (ha : a.id.length = 32) (hb : b.id.length = 32) : (Op.equalIn (d + 3) 58 (.agg a.cells.toArray) (.agg b.cells.toArray)).run Try.prog w = .ok (decide (a.id = b.id ∧ a.at_ = b.at_)) w := by
  have hp : Try.prog.stoodInHeld 58 = false := by kernel_rfl
  have e1 := run_equalIn_row (P := Try.prog) w d 31 5 32 .u8 Try.underlying31 Try.underlying5 (fun w => run_size isU8 w) a.id b.id ha hb
  have e2 : (Op.equalIn (d + 2) 27 (.int .u32 a.at_) (.int .u32 b.at_)).run Try.prog w = .ok (a.at_ == b.at_) w := run_equalIn_int (P := Try.prog) w (d + 1) 27 .u32 .u32 a.at_ b.at_ Try.underlying27
  have pa0 := part_row (ty := 31) Try.underlying31 isHash w (a.id.map (Value.int .u8)) [.int .u32 a.at_] (by simpa using ha)
  have pb0 := part_row (ty := 31) Try.underlying31 isHash w (b.id.map (Value.int .u8)) [.int .u32 b.at_] (by simpa using hb)
  have pa1 := part_one (ty := 27) Try.underlying27 w (a.id.map (Value.int .u8)) 32 (.int .u32 a.at_) (by simpa using ha)
  have pb1 := part_one (ty := 27) Try.underlying27 w (b.id.map (Value.int .u8)) 32 (.int .u32 b.at_) (by simpa using hb)
  rw [run_equalIn_agg w (d + 2) 58 _ _ (by simp only [Program.fieldsOf, Try.underlying58]) hp]
  simp only [Program.fieldsOf, Try.underlying58, Op.eqFields]
  rw [if_pos (by decide), if_pos (by decide)]
  simp only [Sem.run_bind, RefD.cells]
  rw [pa0, Result.andThen_ok, pb0, Result.andThen_ok, e1, Result.andThen_ok]
  by_cases h1 : a.id = b.id
  · rw [if_neg (by simp [h1]), Sem.run_bind, pa1, Result.andThen_ok, Sem.run_bind, pb1, Result.andThen_ok, Sem.run_bind, e2, Result.andThen_ok]
    by_cases h2 : a.at_ = b.at_
    · rw [if_neg (by simp [h2]), Sem.run_pure, decide_eq_true (And.intro h1 h2)]
    · rw [if_pos (by simp [h2]), Sem.run_pure, decide_eq_false (fun h => h2 h.2)]
  · rw [if_pos (by simp [h1]), Sem.run_pure, decide_eq_false (fun h => h1 h.1)]
theorem eqlRef_run (a b : RefD) (ha : a.Fine) (hb : b.Fine) (w : World) : (eqlRef (.agg a.cells.toArray) (.agg b.cells.toArray)).run Try.prog w = .ok (.bool (decide (a.id = b.id ∧ a.at_ = b.at_))) w := by
  unfold eqlRef
  rw [run_eql_struct, refEq w 9997 a b ha.len hb.len]
  rfl
theorem neqRef_run (a b : RefD) (ha : a.Fine) (hb : b.Fine) (w : World) : (neqRef (.agg a.cells.toArray) (.agg b.cells.toArray)).run Try.prog w = .ok (.bool (!decide (a.id = b.id ∧ a.at_ = b.at_))) w := by
  unfold neqRef
  rw [run_neq_struct, refEq w 9997 a b ha.len hb.len]
  rfl
set_option maxRecDepth 100000 in
theorem guardRef : Try.prog.eqGuardType Try.prog.depth 58 = false := by kernel_rfl
end Go.Proofs.Ytbpmcnfmgaolnaa
/-
  coin: references as bytes; the document's.
-/
namespace Go.Proofs.Ytbpmcnfmgaolnaa
open Go.RowKit

theorem RefD.bys {w : World} {g : Nat} {t : TypeId} {r : RefD} (hf : r.Fine) (h : Blk w g t r.cells) : Bys w (some ⟨g, 0, none⟩) 32 r.id := by
  refine ⟨hf.len, hf.byt, fun _ => ⟨g, 0, rfl, fun j v hv => ?_⟩⟩
  rw [Nat.zero_add, h.cell, RefD.cells, List.getElem?_append_left (by rw [List.length_map]; exact (List.getElem?_eq_some_iff.1 hv).1), List.getElem?_map, hv]
  rfl
theorem RefD.c32 {w : World} {g : Nat} {t : TypeId} {r : RefD} (hf : r.Fine) (h : Blk w g t r.cells) : w.cell? ⟨g, 32, none⟩ = some (.int .u32 r.at_) := by
  rw [h.cell, RefD.cells, List.getElem?_append_right (by simp [hf.len])]
  simp [hf.len]
set_option maxHeartbeats 1000000 in
set_option maxRecDepth 100000 in
theorem RefBytes_any (w : World) (r : RefD) (hf : r.Fine) :
    Calls Try.prog 98 #[.agg r.cells.toArray] w (MinePost 5 w none r.bytes) := by
  have B0 := Blk.new w 58 r.cells
  have hB := hide (RefD.bys hf B0)
  have k32 := RefD.c32 hf B0
  have h0 := hf.at0
  have h1 := hf.at1
  have hb0 := hide (show Below w.heap.size w (w.alloc (.cells r.cells.toArray 58)) from below_alloc (Below.refl _ _) _)
  have E : Hid (r.bytes = r.id ++ dig r.at_.toNat (Rd.within 4).toNat) := hide rfl
  generalize r.at_ = n at k32 h0 h1 E
  have hw := show IntKind.u64.wrap n = n by rw [IntKind.wrap_u64]; omega
  clear B0 hf
  go_enter Try.func98, Try.ntmps98
  go_wp2_with fail
  obtain ⟨w1, hw1⟩ : ∃ w1, w1 = w.alloc (.cells r.cells.toArray 58) := ⟨_, rfl⟩
  rw [← hw1] at k32 hB hb0 ⊢
  clear hw1
  have hBd : Hid (Bys w1.drew (some ⟨w.heap.size, 0, none⟩) 32 r.id) := hB
  go_region_held (fun w' => w'.cell? ⟨w.heap.size, 32, none⟩ = some (.int .u32 n)) (exact k32)
    ((go_at_call 86; (first | (with_reducible refine (Fixed_any w1 w1 (some ⟨w.heap.size, 0, none⟩) 32 32 r.id n 4 (Below.refl _ _) hB.out h0 (by omega) (by decide)).mono ?_) | (with_reducible refine (Fixed_any w1 w1.drew (some ⟨w.heap.size, 0, none⟩) 32 32 r.id n 4 (below_drew (Below.refl _ _)) hBd.out h0 (by omega) (by decide)).mono ?_)); rintro e w3 ⟨A3, n3, c3, rfl, t3, f3⟩; have k32 : w3.cell? ⟨w.heap.size, 32, none⟩ = some (.int .u32 n) := cell_under t3.below k32))
  all_goals
    go_wp2
    go_ret
    rw [E.out]
    exact MinePost.mk (t3.older hb0.out) ((f3 (Fr.none _)).older hb0.out)
set_option maxHeartbeats 1000000 in
set_option maxRecDepth 100000 in
theorem refRefBytes_any (w : World) (r : RefD) (hf : r.Fine) :
    Calls Try.prog 100 #[.agg r.cells.toArray] w (MinePost 5 w none r.bytes) := by
  have B0 := Blk.new w 58 r.cells
  have hB := hide (RefD.bys hf B0)
  have k32 := RefD.c32 hf B0
  have h0 := hf.at0
  have h1 := hf.at1
  have hb0 := hide (show Below w.heap.size w (w.alloc (.cells r.cells.toArray 58)) from below_alloc (Below.refl _ _) _)
  have E : Hid (r.bytes = [] ++ r.id ++ dig r.at_.toNat (Rd.within 4).toNat) := hide rfl
  generalize r.at_ = n at k32 h0 h1 E
  have hw := show IntKind.u64.wrap n = n by rw [IntKind.wrap_u64]; omega
  clear B0 hf
  go_enter Try.func100, Try.ntmps100
  go_wp2_with fail
  obtain ⟨w1, hw1⟩ : ∃ w1, w1 = w.alloc (.cells r.cells.toArray 58) := ⟨_, rfl⟩
  rw [← hw1] at k32 hB hb0 ⊢
  clear hw1
  have K00 := hide k32
  have hBa := hide (fun (o : Obj) => hB.out.below ((Below.refl _ w1).drew.alloc (Nat.le_refl _) o))
  have hbx := hide (fun (o : Obj) => ((Below.refl _ w1).drew.alloc (Nat.le_refl _) o))
  go_region_held_law (fun w' => w'.cell? ⟨w.heap.size, 32, none⟩ = some (.int .u32 n))
    (first | exact k32 | exact cell_under (hbx.out _) k32)
    (first
      | (refine step_app (by rfl) _ (by rfl) _ _ (by rfl) w1 _ 0 0 [] (by rfl) (Mine.nil (hbx.out _) _) (some ⟨w.heap.size, 0, none⟩) 32 32 r.id (by rfl) (hBa.out _) (by decide) ?_; intro A5 n5 c5 w5 t5 f5; have K32 := hide (cell_under t5.below K00.out); have k32 := K32.out)
      | (go_at_call 88; refine (reffixed_any w5 w5 n 4 (Below.refl _ _) h0 (by omega)).mono ?_; rintro e w6 ⟨A6, n6, c6, rfl, t6, f6⟩; have k32 := cell_under t6.below K32.out)
      | (refine step_app (by rfl) _ (by rfl) _ _ (by rfl) w1 A5 n5 c5 _ (by rfl) (t5.keep t6.below) A6 n6 c6 _ (by rfl) t6.bys (by have e1 := t5.len; have e2 := t6.len; have e4 := within_range 4; rw [dig_length] at e2; rw [List.nil_append, hB.out.1] at e1; omega) ?_; intro A7 n7 c7 w7 t7 f7; have k32 := cell_under t7.below K00.out))
  all_goals
    go_wp2
    go_ret
    rw [E.out]
    exact MinePost.mk (t7.older hb0.out) (Fr.older (f7 (.inl (f5 (.inr (by decide))))) hb0.out)
end Go.Proofs.Ytbpmcnfmgaolnaa
/-
  A coin's bytes, read: plain functions, no program in sight.
-/
namespace Go.Proofs.Ytbpmcnfmgaolnaa
open Go.RowKit

def zeroC : CoinD := ⟨⟨0, []⟩, 0, false⟩
def parse (b : List Int) : CoinD × Int :=
  if ((Rd.count ⟨b, 0⟩ 2000000001).2.fixed 8).2.err = 0 ∧ ¬ money (i64 ((Rd.count ⟨b, 0⟩ 2000000001).2.fixed 8).1) then (zeroC, 62)
  else if (((Rd.count ⟨b, 0⟩ 2000000001).2.fixed 8).2.text 2000).2.err ≠ 0 then (zeroC, (((Rd.count ⟨b, 0⟩ 2000000001).2.fixed 8).2.text 2000).2.err)
  else if 0 < (((Rd.count ⟨b, 0⟩ 2000000001).2.fixed 8).2.text 2000).2.rest.length then (zeroC, 62)
  else (⟨⟨i64 ((Rd.count ⟨b, 0⟩ 2000000001).2.fixed 8).1, (((Rd.count ⟨b, 0⟩ 2000000001).2.fixed 8).2.text 2000).1⟩, ((Rd.count ⟨b, 0⟩ 2000000001).1 : Int) / 2, decide (((Rd.count ⟨b, 0⟩ 2000000001).1 : Int) % 2 = 1)⟩, 0)
theorem count_most (r : Rd) (m : Nat) : (r.count m).1 ≤ m := by
  unfold Rd.count
  split
  · exact Nat.zero_le _
  · exact peek_most _ _
theorem raw_byt (r : Rd) (n : Int) (h : Byt r.rest) : Byt (r.raw n).1 := by
  unfold Rd.raw
  split
  · intro x hx; cases hx
  · split
    · intro x hx; cases hx
    · intro x hx; exact h x (List.mem_of_mem_take hx)
theorem fixed_u64 (r : Rd) (n : Int) (h : Byt r.rest) : (r.fixed n).1 < 18446744073709551616 := by
  have h1 := num_lt _ (raw_byt r (Rd.within n) h)
  have h2 := raw_length r (Rd.within n) 8 (within_range n).2
  have h3 : 256 ^ (r.raw (Rd.within n)).1.length ≤ 256 ^ 8 := Nat.pow_le_pow_right (by decide) h2
  unfold Rd.fixed
  simp only
  have h4 : (256 : Nat) ^ 8 = 18446744073709551616 := by decide
  omega
theorem i64_wrap (n : Int) (h0 : 0 ≤ n) (h1 : n < 18446744073709551616) : IntKind.i64.wrap n = i64 n := by
  rw [IntKind.wrap_i64]
  unfold i64
  split <;> omega
theorem i64_range (n : Int) (h0 : 0 ≤ n) (h1 : n < 18446744073709551616) : -9223372036854775808 ≤ i64 n ∧ i64 n ≤ 9223372036854775807 := by
  unfold i64
  split <;> omega
end Go.Proofs.Ytbpmcnfmgaolnaa
/-
  What is read is what was written, and back; cut off it is too short: plain laws on texts, numbers, coins.
-/
namespace Go.Proofs.Ytbpmcnfmgaolnaa
open Go.RowKit

theorem text_app (x rest : List Int) (M : Int) (hx : (x.length : Int) ≤ M) (hM : M < 9223372036854775808) : Rd.text ⟨txt x ++ rest, 0⟩ M = (x, ⟨rest, 0⟩) := by
  obtain ⟨m, e⟩ : ∃ m, (max M 0).toNat = m := ⟨_, rfl⟩
  have hxm : x.length ≤ m := by omega
  have hp := peek_cnt x.length m (x ++ rest) (by omega) hxm
  rw [← List.append_assoc, show cnt x.length ++ x ++ rest = txt x ++ rest from rfl] at hp
  have h1 : ¬ (txt x ++ rest).length - (cnt x.length).length < x.length := by simp only [txt, List.length_append]; omega
  unfold Rd.text
  simp only [e, hp, ne_eq, not_true_eq_false, if_false, h1]
  simp [txt]
theorem text_cut2 (x rest : List Int) (k : Nat) (M : Int) (hk : k < (txt x).length) (hx : (x.length : Int) ≤ M) (hM : M < 9223372036854775808) : ((Rd.text ⟨(txt x ++ rest).take k, 0⟩ M).2).err = 61 := by
  obtain ⟨m, e⟩ : ∃ m, (max M 0).toNat = m := ⟨_, rfl⟩
  have hxm : x.length ≤ m := by omega
  unfold Rd.text
  simp only [e, ne_eq, not_true_eq_false, if_false]
  by_cases h : k < (cnt x.length).length
  · have hp := peek_cut x.length m k (x ++ rest) h
    rw [← List.append_assoc, show cnt x.length ++ x ++ rest = txt x ++ rest from rfl] at hp
    simp [hp]
  · obtain ⟨i, rfl⟩ : ∃ i, k = (cnt x.length).length + i := ⟨k - (cnt x.length).length, by omega⟩
    have e2 : (txt x ++ rest).take ((cnt x.length).length + i) = cnt x.length ++ (x ++ rest).take i := by
      rw [txt, List.append_assoc, take_over]
    have hp := peek_cnt x.length m ((x ++ rest).take i) (by omega) hxm
    have hm : i < x.length := by simp [txt] at hk; omega
    have h1 : (cnt x.length ++ (x ++ rest).take i).length - (cnt x.length).length < x.length := by simp; omega
    rw [e2]
    simp only [hp, not_true_eq_false, if_false, if_pos h1]
theorem sticky_fixed (r : Rd) (m : Int) (h : r.err ≠ 0) : r.fixed m = (0, r) := by simp [Rd.fixed, Rd.raw, h, num]
theorem ite_err {p : Prop} [Decidable p] (N U : Nat) : (if p then ((0 : Nat), (0 : Nat), (62 : Int)) else (N, U, 0)).2.2 = 0 ∨ (if p then ((0 : Nat), (0 : Nat), (62 : Int)) else (N, U, 0)).2.2 = 61 ∨ (if p then ((0 : Nat), (0 : Nat), (62 : Int)) else (N, U, 0)).2.2 = 62 := by
  split <;> simp
theorem peek_err (b : List Int) (m : Nat) : (Rd.peek b m).2.2 = 0 ∨ (Rd.peek b m).2.2 = 61 ∨ (Rd.peek b m).2.2 = 62 := by
  cases b with
  | nil => simp [Rd.peek]
  | cons x l =>
    by_cases h1 : l.length < Rd.sizeOf x
    · simp only [Rd.peek, if_pos h1]; decide
    · simp only [Rd.peek, if_neg h1]
      exact ite_err _ _
/-- An error that there can be. -/
def Bad (e : Int) : Prop := e = 0 ∨ e = 61 ∨ e = 62
theorem count_bad (r : Rd) (m : Nat) (h : Bad r.err) : Bad (r.count m).2.err := by
  unfold Rd.count
  split
  · exact h
  · exact peek_err _ _
theorem raw_bad (r : Rd) (k : Int) (h : Bad r.err) : Bad (r.raw k).2.err := by
  unfold Rd.raw
  split
  · exact h
  · split
    · exact .inr (.inl rfl)
    · exact h
theorem fixed_bad (r : Rd) (k : Int) (h : Bad r.err) : Bad (r.fixed k).2.err := raw_bad _ _ h
theorem text_bad (r : Rd) (k : Int) (h : Bad r.err) : Bad (r.text k).2.err := by
  unfold Rd.text
  split
  · exact h
  · split
    · exact peek_err _ _
    · split
      · exact .inr (.inl rfl)
      · exact h
theorem fixed_ok (r : Rd) (k : Int) (h : (r.fixed k).2.err = 0) : r.err = 0 := by
  apply Classical.byContradiction
  intro he
  rw [sticky_fixed r k he] at h
  exact he h
theorem text_ok (r : Rd) (k : Int) (h : (r.text k).2.err = 0) : r.err = 0 := by
  apply Classical.byContradiction
  intro he
  rw [sticky r k he] at h
  exact he h
theorem count_ok (r : Rd) (k : Nat) (h : (r.count k).2.err = 0) : r.err = 0 := by
  apply Classical.byContradiction
  intro he
  rw [sticky_count r k he] at h
  exact he h
theorem count_back (r : Rd) (m : Nat) (hB : Byt r.rest) (h : (r.count m).2.err = 0) : r.rest = cnt (r.count m).1 ++ (r.count m).2.rest ∧ (r.count m).1 ≤ m ∧ Byt (r.count m).2.rest := by
  have h0 := count_ok r m h
  unfold Rd.count at h ⊢
  simp only [h0, ne_eq, not_true_eq_false, if_false] at h ⊢
  obtain ⟨N, U, X, hp⟩ : ∃ N U X, Rd.peek r.rest m = (N, U, X) := ⟨_, _, _, rfl⟩
  rw [hp] at h ⊢
  simp only at h ⊢
  subst h
  obtain ⟨h1, h2, h3⟩ := peek_back _ _ hB _ _ hp
  exact ⟨by rw [h1, List.take_append_drop], h3, fun x hx => hB x (List.mem_of_mem_drop hx)⟩
theorem fixed_back (r : Rd) (k : Int) (hk : 1 ≤ k) (h8 : k ≤ 8) (hB : Byt r.rest) (h : (r.fixed k).2.err = 0) : r.rest = dig (r.fixed k).1 k.toNat ++ (r.fixed k).2.rest ∧ (r.fixed k).1 < 256 ^ k.toNat ∧ Byt (r.fixed k).2.rest := by
  have h0 := fixed_ok r k h
  have hw : Rd.within k = k := by unfold Rd.within; omega
  unfold Rd.fixed Rd.raw at h ⊢
  have hk1 : ¬ k < 1 := by omega
  simp only [hw, h0, ne_eq, not_true_eq_false, false_or, hk1, if_false] at h ⊢
  by_cases hl : (r.rest.length : Int) < k
  · simp [hl] at h
  · simp only [if_neg hl] at h ⊢
    have hlen : (r.rest.take k.toNat).length = k.toNat := by rw [List.length_take]; omega
    have hb : Byt (r.rest.take k.toNat) := fun x hx => hB x (List.mem_of_mem_take hx)
    have hd := dig_num _ hb
    have hn := num_lt _ hb
    rw [hlen] at hd hn
    exact ⟨by rw [hd, List.take_append_drop], hn, fun x hx => hB x (List.mem_of_mem_drop hx)⟩
theorem text_back (r : Rd) (M : Int) (hM0 : 0 ≤ M) (hB : Byt r.rest) (h : (r.text M).2.err = 0) : r.rest = txt (r.text M).1 ++ (r.text M).2.rest ∧ ((r.text M).1.length : Int) ≤ M ∧ Byt (r.text M).2.rest ∧ Byt (r.text M).1 := by
  have h0 := text_ok r M h
  unfold Rd.text at h ⊢
  obtain ⟨m, e⟩ : ∃ m, (max M 0).toNat = m := ⟨_, rfl⟩
  obtain ⟨N, U, X, hp⟩ : ∃ N U X, Rd.peek r.rest m = (N, U, X) := ⟨_, _, _, rfl⟩
  simp only [h0, e, hp, ne_eq, not_true_eq_false, if_false] at h ⊢
  by_cases hX : X = 0
  · subst hX
    simp only [not_true_eq_false, if_false] at h ⊢
    obtain ⟨h1, h2, h3⟩ := peek_back _ _ hB _ _ hp
    by_cases hs : r.rest.length - U < N
    · simp [hs] at h
    · simp only [if_neg hs] at h ⊢
      have hl : ((r.rest.drop U).take N).length = N := by rw [List.length_take, List.length_drop]; omega
      refine ⟨?_, by rw [hl]; omega, fun x hx => hB x (List.mem_of_mem_drop (List.mem_of_mem_drop hx)), fun x hx => hB x (List.mem_of_mem_drop (List.mem_of_mem_take hx))⟩
      rw [txt, hl, h1, List.append_assoc, List.take_append_drop, List.take_append_drop]
  · simp [hX] at h
theorem i64_back (F : Nat) (h : F < 18446744073709551616) : u64 (i64 F) = F := by
  unfold u64 i64
  split <;> omega
/-! ### Coins -/
theorem parse_eq (b : List Int) (N F : Nat) (T : List Int) (r1 r2 r3 : Rd) (h1 : Rd.count ⟨b, 0⟩ 2000000001 = (N, r1)) (h2 : r1.fixed 8 = (F, r2)) (h3 : r2.text 2000 = (T, r3)) :
    parse b = if r2.err = 0 ∧ ¬ money (i64 F) then (zeroC, 62) else if r3.err ≠ 0 then (zeroC, r3.err) else if 0 < r3.rest.length then (zeroC, 62) else (⟨⟨i64 F, T⟩, (N : Int) / 2, decide ((N : Int) % 2 = 1)⟩, 0) := by
  simp only [parse, h1, h2, h3]
theorem parse_bad (b : List Int) (h : (parse b).2 ≠ 0) : (parse b).1 = zeroC ∧ ((parse b).2 = 61 ∨ (parse b).2 = 62) := by
  obtain ⟨N, r1, h1⟩ : ∃ N r1, Rd.count ⟨b, 0⟩ 2000000001 = (N, r1) := ⟨_, _, rfl⟩
  obtain ⟨F, r2, h2⟩ : ∃ F r2, r1.fixed 8 = (F, r2) := ⟨_, _, rfl⟩
  obtain ⟨T, r3, h3⟩ : ∃ T r3, r2.text 2000 = (T, r3) := ⟨_, _, rfl⟩
  have b1 := count_bad ⟨b, 0⟩ 2000000001 (.inl rfl)
  rw [h1] at b1
  have b2 := fixed_bad r1 8 b1
  rw [h2] at b2
  have b3 := text_bad r2 2000 b2
  rw [h3] at b3
  rw [parse_eq b N F T r1 r2 r3 h1 h2 h3] at h ⊢
  by_cases c1 : r2.err = 0 ∧ ¬ money (i64 F)
  · rw [if_pos c1]; exact ⟨rfl, .inr rfl⟩
  · rw [if_neg c1] at h ⊢
    by_cases c2 : r3.err ≠ 0
    · rw [if_pos c2]; exact ⟨rfl, by rcases b3 with h | h | h; exact absurd h c2; exact .inl h; exact .inr h⟩
    · rw [if_neg c2] at h ⊢
      by_cases c3 : 0 < r3.rest.length
      · rw [if_pos c3]; exact ⟨rfl, .inr rfl⟩
      · rw [if_neg c3] at h; exact absurd rfl h
theorem n64_right (c : CoinD) (h : c.right) : c.n64.toNat = c.num ∧ c.num ≤ 2000000001 := by
  obtain ⟨_, _, h0, h1⟩ := h
  unfold CoinD.n64 CoinD.num
  cases c.base <;> simp <;> omega
theorem parse_good (b : List Int) (hB : Byt b) (h : (parse b).2 = 0) : (parse b).1.right ∧ (parse b).1.bytes64 = b ∧ Byt (parse b).1.out.lock := by
  obtain ⟨N, r1, h1⟩ : ∃ N r1, Rd.count ⟨b, 0⟩ 2000000001 = (N, r1) := ⟨_, _, rfl⟩
  obtain ⟨F, r2, h2⟩ : ∃ F r2, r1.fixed 8 = (F, r2) := ⟨_, _, rfl⟩
  obtain ⟨T, r3, h3⟩ : ∃ T r3, r2.text 2000 = (T, r3) := ⟨_, _, rfl⟩
  rw [parse_eq b N F T r1 r2 r3 h1 h2 h3] at h ⊢
  by_cases c1 : r2.err = 0 ∧ ¬ money (i64 F)
  · rw [if_pos c1] at h; exact absurd h (by decide)
  · rw [if_neg c1] at h ⊢
    by_cases c2 : r3.err ≠ 0
    · rw [if_pos c2] at h; exact absurd h c2
    · rw [if_neg c2] at h ⊢
      by_cases c3 : 0 < r3.rest.length
      · rw [if_pos c3] at h; exact absurd h (by decide)
      · rw [if_neg c3]
        have e3 : r3.err = 0 := by simpa using c2
        have e3' : (r2.text 2000).2.err = 0 := by rw [h3]; exact e3
        have e2 := text_ok _ _ e3'
        have e2' : (r1.fixed 8).2.err = 0 := by rw [h2]; exact e2
        have e1 := fixed_ok _ _ e2'
        have e1' : (Rd.count ⟨b, 0⟩ 2000000001).2.err = 0 := by rw [h1]; exact e1
        have k1 := count_back _ _ hB e1'
        rw [h1] at k1
        obtain ⟨k1, n1, B1⟩ := k1
        simp only at k1 n1 B1
        have k2 := fixed_back _ 8 (by decide) (by decide) B1 e2'
        rw [h2] at k2
        obtain ⟨k2, n2, B2⟩ := k2
        simp only at k2 n2 B2
        have k3 := text_back _ 2000 (by decide) B2 e3'
        rw [h3] at k3
        obtain ⟨k3, n3, B3, B4⟩ := k3
        simp only at k3 n3 B3 B4
        have hz : r3.rest = [] := List.eq_nil_of_length_eq_zero (by omega)
        have hm : money (i64 F) := by
          apply Classical.byContradiction
          intro hm
          exact c1 ⟨e2, hm⟩
        have n2' : F < 18446744073709551616 := n2
        have hU := i64_back F n2'
        clear c1 h e1 e1' e2 e2' e3 e3' h1 h2 h3 n2 n2'
        generalize i64 F = v at hm hU ⊢
        have hq0 : (0 : Int) ≤ (N : Int) / 2 := by omega
        have hq1 : (N : Int) / 2 ≤ 1000000000 := by omega
        have hn3 : T.length ≤ 2000 := by omega
        refine ⟨⟨hm, hn3, hq0, hq1⟩, ?_, B4⟩
        have hn : CoinD.n64 (⟨⟨v, T⟩, (N : Int) / 2, decide ((N : Int) % 2 = 1)⟩ : CoinD) = N := by
          unfold CoinD.n64
          by_cases hp : (N : Int) % 2 = 1
          · simp only [hp, decide_true, if_true]; omega
          · simp only [hp, decide_false]; simp; omega
        show cnt (CoinD.n64 (⟨⟨v, T⟩, (N : Int) / 2, decide ((N : Int) % 2 = 1)⟩ : CoinD)).toNat ++ (dig (u64 v).toNat 8 ++ txt T) = b
        rw [hn, hU, Int.toNat_natCast, Int.toNat_natCast, k1, k2, k3, hz, List.append_nil]
        rfl
theorem dig8 (n : Nat) : (dig n 8).length = 8 := dig_length n 8
theorem u64_nat (v : Int) : (u64 v).toNat < 18446744073709551616 := by unfold u64; omega
theorem num_dig8 (v : Int) : num (dig (u64 v).toNat 8) = (u64 v).toNat := by
  have := u64_nat v
  rw [num_dig, Nat.mod_eq_of_lt (by exact this)]
theorem i64_money (v : Int) (h : money v) : i64 ((u64 v).toNat : Int) = v := by
  have h1 := h.1
  have h2 := h.2
  have : ((u64 v).toNat : Int) = u64 v := by unfold u64; omega
  rw [this, i64_u64 v (by omega) (by omega)]
/-- What is written of a coin, with something behind it. -/
theorem parse_append (c : CoinD) (h : c.right) (rest : List Int) : parse (c.bytes64 ++ rest) = if 0 < rest.length then (zeroC, 62) else (c, 0) := by
  obtain ⟨hn, hn2⟩ := n64_right c h
  have e : c.bytes64 ++ rest = cnt c.num ++ (dig (u64 c.out.value).toNat 8 ++ (txt c.out.lock ++ rest)) := by
    unfold CoinD.bytes64 OutD.bytes
    rw [hn]
    simp only [List.append_assoc]
  have h1 : Rd.count ⟨c.bytes64 ++ rest, 0⟩ 2000000001 = (c.num, ⟨dig (u64 c.out.value).toNat 8 ++ (txt c.out.lock ++ rest), 0⟩) := by
    rw [e]; exact count_append _ _ _ (by omega) hn2
  have h2 : Rd.fixed ⟨dig (u64 c.out.value).toNat 8 ++ (txt c.out.lock ++ rest), 0⟩ 8 = ((u64 c.out.value).toNat, ⟨txt c.out.lock ++ rest, 0⟩) := by
    rw [fixed_append _ _ 8 (by rw [dig8]; rfl) (by decide), num_dig8]
  have h3 : Rd.text ⟨txt c.out.lock ++ rest, 0⟩ 2000 = (c.out.lock, ⟨rest, 0⟩) := text_app _ _ _ (by have := h.2.1; omega) (by decide)
  rw [parse_eq _ _ _ _ _ _ _ h1 h2 h3]
  rw [if_neg (fun hh => hh.2 (by rw [i64_money _ h.1]; exact h.1)), if_neg (by simp)]
  by_cases hr : 0 < rest.length
  · simp only [if_pos hr]
  · simp only [if_neg hr]
    rw [i64_money _ h.1]
    have h4 := h.2.2.1
    obtain ⟨⟨v, l⟩, H, B⟩ := c
    simp only at h4 ⊢
    unfold CoinD.num
    cases B
    · simp; omega
    · simp; omega
theorem parse_cut (c : CoinD) (h : c.right) (k : Nat) (hk : k < c.bytes64.length) : (parse (c.bytes64.take k)).2 = 61 := by
  obtain ⟨hn, hn2⟩ := n64_right c h
  have e : c.bytes64 = cnt c.num ++ (dig (u64 c.out.value).toNat 8 ++ txt c.out.lock) := by
    unfold CoinD.bytes64 OutD.bytes
    rw [hn]
  rw [e] at hk ⊢
  obtain ⟨b, hb⟩ : ∃ b, b = (cnt c.num ++ (dig (u64 c.out.value).toNat 8 ++ txt c.out.lock)).take k := ⟨_, rfl⟩
  rw [← hb]
  obtain ⟨N, r1, h1⟩ : ∃ N r1, Rd.count ⟨b, 0⟩ 2000000001 = (N, r1) := ⟨_, _, rfl⟩
  obtain ⟨F, r2, h2⟩ : ∃ F r2, r1.fixed 8 = (F, r2) := ⟨_, _, rfl⟩
  obtain ⟨T, r3, h3⟩ : ∃ T r3, r2.text 2000 = (T, r3) := ⟨_, _, rfl⟩
  rw [parse_eq b N F T r1 r2 r3 h1 h2 h3]
  have fin : (r2.err = 61 ∨ r2.err = 0 ∧ money (i64 F)) → r3.err = 61 → (if r2.err = 0 ∧ ¬ money (i64 F) then (zeroC, (62 : Int)) else if r3.err ≠ 0 then (zeroC, r3.err) else if 0 < r3.rest.length then (zeroC, 62) else (⟨⟨i64 F, T⟩, (N : Int) / 2, decide ((N : Int) % 2 = 1)⟩, 0)).2 = 61 := fun ha hb => by
    rw [if_neg (fun hc => by rcases ha with h | h; rw [h] at hc; exact absurd hc.1 (by decide); exact hc.2 h.2), if_pos (by rw [hb]; decide)]
    exact hb
  by_cases hc : k < (cnt c.num).length
  · have hp := peek_cut c.num 2000000001 k (dig (u64 c.out.value).toNat 8 ++ txt c.out.lock) hc
    rw [← hb] at hp
    have : r1.err = 61 := by
      have h1' := congrArg (fun x => x.2.err) h1
      simp only at h1'
      rw [← h1']
      simp [Rd.count, hp]
    have e2 : r2 = r1 := by
      have := sticky_fixed r1 8 (by rw [this]; decide)
      rw [h2] at this
      exact congrArg Prod.snd this
    have e3 : r3 = r2 := by
      have := sticky r2 2000 (by rw [e2, this]; decide)
      rw [h3] at this
      exact this
    exact fin (.inl (by rw [e2]; exact this)) (by rw [e3, e2]; exact this)
  · obtain ⟨j, rfl⟩ : ∃ j, k = (cnt c.num).length + j := ⟨k - (cnt c.num).length, by omega⟩
    rw [take_over] at hb
    rw [hb, count_append _ _ _ (by omega) hn2] at h1
    injection h1 with _ h1
    subst h1
    by_cases h8 : j < 8
    · have e : Rd.fixed ⟨(dig (u64 c.out.value).toNat 8 ++ txt c.out.lock).take j, 0⟩ 8 = (0, ⟨(dig (u64 c.out.value).toNat 8 ++ txt c.out.lock).take j, 61⟩) := by
        rw [Rd.fixed, show Rd.within 8 = 8 from by decide, raw_short _ 8 (by simp; omega)]; rfl
      rw [e] at h2
      injection h2 with _ h2
      have e2 : r2.err = 61 := by rw [← h2]
      have e3 : r3 = r2 := by
        have := sticky r2 2000 (by rw [e2]; decide)
        rw [h3] at this
        exact this
      exact fin (.inl e2) (by rw [e3]; exact e2)
    · obtain ⟨i, rfl⟩ : ∃ i, j = 8 + i := ⟨j - 8, by omega⟩
      have e2 : (dig (u64 c.out.value).toNat 8 ++ txt c.out.lock).take (8 + i) = dig (u64 c.out.value).toNat 8 ++ (txt c.out.lock).take i := by
        have := take_over (dig (u64 c.out.value).toNat 8) (txt c.out.lock) i
        rwa [dig8] at this
      rw [e2, fixed_append _ _ 8 (by rw [dig8]; rfl) (by decide), num_dig8] at h2
      injection h2 with hF h2
      subst hF
      subst h2
      refine fin (.inr ⟨rfl, by rw [i64_money _ h.1]; exact h.1⟩) ?_
      have := text_cut2 c.out.lock [] i 2000 (by simp only [List.length_append, dig8] at hk; omega) (by have := h.2.1; omega) (by decide)
      rw [List.append_nil, h3] at this
      exact this
end Go.Proofs.Ytbpmcnfmgaolnaa

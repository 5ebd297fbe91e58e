/-
  coin: Money, Sum, Subsidy; the document's.
-/
import Derived.Test.YtfloclamdpageaaStr
import Derived.Test.YtfloclamdpageaaOwnRows
import Derived.Test.YtfloclamdpageaaPure09
namespace Go.Proofs.Ytfloclamdpageaa
open Go.RowKit

def moneyB (n : Int) : Bool := decide (money n)
theorem money_iff (n : Int) : moneyB n = true ↔ money n := by unfold moneyB; simp
set_option maxHeartbeats 400000 in
theorem Money_any (w : World) (n : Int) : Calls Try.prog 21 #[.int .i64 n] w fun e w' => e = .returned (.bool (moneyB n)) ∧ w = w' := by
  have h : (n < 0 ∧ moneyB n = false) ∨ (0 ≤ n ∧ n ≤ 2000000000000 ∧ moneyB n = true) ∨ (0 ≤ n ∧ 2000000000000 < n ∧ moneyB n = false) := by
    unfold moneyB money
    by_cases h1 : 0 ≤ n <;> by_cases h2 : n ≤ 2000000000000 <;> simp [h1, h2] <;> omega
  rcases h with ⟨h1, e⟩ | ⟨h1, h2, e⟩ | ⟨h1, h2, e⟩
  all_goals
    have E := hide e
    clear e
    go_enter Try.func21, Try.ntmps21
    go_wp2
    go_ret
    exact ⟨by rw [E.out]; first | rfl | (show Ending.returned (.bool (decide _)) = _; congr 2; simp; omega), rfl⟩
set_option maxHeartbeats 400000 in
theorem refmoney_any (w : World) (n : Int) : Calls Try.prog 24 #[.int .i64 n] w fun e w' => e = .returned (.bool (moneyB n)) ∧ w = w' := by
  have h : (n < 0 ∧ moneyB n = false) ∨ (0 ≤ n ∧ n ≤ 2000000000000 ∧ moneyB n = true) ∨ (0 ≤ n ∧ 2000000000000 < n ∧ moneyB n = false) := by
    unfold moneyB money
    by_cases h1 : 0 ≤ n <;> by_cases h2 : n ≤ 2000000000000 <;> simp [h1, h2] <;> omega
  rcases h with ⟨h1, e⟩ | ⟨h1, h2, e⟩ | ⟨h1, h2, e⟩
  all_goals
    have E := hide e
    clear e
    go_enter Try.func24, Try.ntmps24
    go_wp2
    go_ret
    exact ⟨by rw [E.out]; first | rfl | (show Ending.returned (.bool (decide _)) = _; congr 2; simp; omega), rfl⟩
/-- An output in memory. -/
structure OutV where
  v : Int
  A : Option Addr
  n : Nat
  c : Nat
  bs : List Int
def OutV.cells (a : OutV) : List Value := [.int .i64 a.v, .slice a.A a.n a.c]
def OutV.d (a : OutV) : OutD := ⟨a.v, a.bs⟩
structure OutV.Fine (w : World) (a : OutV) : Prop where
  v : -9223372036854775808 ≤ a.v ∧ a.v ≤ 9223372036854775807
  bys : Bys w a.A a.n a.bs
  cap : a.n ≤ a.c
abbrev OutsIn (w : World) (A : Option Addr) (n : Nat) (xs : List OutV) : Prop := RowsIn OutV.cells 2 OutV.Fine w A n xs
theorem OutV.Fine.below {w w' : World} {a : OutV} (h : a.Fine w) (hb : Below w.heap.size w w') : a.Fine w' := ⟨h.v, h.bys.below hb, h.cap⟩
theorem OutsIn.below' {w w' : World} {A : Option Addr} {n : Nat} {xs : List OutV} (h : OutsIn w A n xs) (hb : Below w.heap.size w w') : OutsIn w' A n xs := h.below hb fun _ h => h.below hb
theorem rangeAt_c0 {w : World} {b o : Nat} {x : Value} {l : List Value} (h : w.rangeAt b o (x :: l)) : w.cell? ⟨b, o, none⟩ = some x := by have := h 0 x rfl; simpa using this
theorem rangeAt_c1 {w : World} {b o : Nat} {x y : Value} {l : List Value} (h : w.rangeAt b o (x :: y :: l)) : w.cell? ⟨b, o + 1, none⟩ = some y := h 1 y rfl
theorem sumFrom_step (v : Int) (l : List Int) (s : Int) : sumFrom (v :: l) s = if money v ∧ money (s + v) then sumFrom l (s + v) else (0, 91) := rfl
set_option maxHeartbeats 2000000 in
set_option maxRecDepth 100000 in
theorem Sum_any (w : World) (A : Option Addr) (n c : Nat) (xs : List OutV) (hX : OutsIn w A n xs) (hn : (n : Int) ≤ 1000000) :
    Calls Try.prog 22 #[.slice A n c] w fun e w' => e = .returned (.tuple #[.int .i64 (sumFrom (xs.map (·.v)) 0).1, .int .i64 (sumFrom (xs.map (·.v)) 0).2]) ∧ Below w.heap.size w w' := by
  have HX := hide hX
  clear hX
  go_enter Try.func22, Try.ntmps22
  go_wp2
  go_loopw [4, 6, 9] (fun s _ i wr => ∃ (j : Nat) (t : Int), j ≤ n ∧ i = .int .i64 j ∧ s = .int .i64 t ∧ 0 ≤ t ∧ t ≤ 2000000000000 ∧ sumFrom (xs.map (·.v)) 0 = sumFrom ((xs.drop j).map (·.v)) t ∧ Below w.heap.size w wr) (fun _ _ i _ => n - (intOf i).toNat)
  case atStart => exact ⟨0, 0, by omega, rfl, rfl, by omega, by omega, by simp, Below.refl _ _⟩
  case round =>
    obtain ⟨j, t, hj, rfl, rfl, t0, t1, hs, hb⟩ := hrel
    by_cases hlt : j < n
    · obtain ⟨b, off, rfl, hrow⟩ := HX.out.2.2 (by omega)
      have hjl : j < xs.length := by rw [HX.out.1]; exact hlt
      obtain ⟨x, hx⟩ : ∃ x, xs[j]? = some x := ⟨_, List.getElem?_eq_getElem hjl⟩
      have hr := range_under (hrow j x hx) hb
      have c0 := rangeAt_c0 hr
      have c1 := rangeAt_c1 hr
      have hd : xs.drop j = x :: xs.drop (j + 1) := by
        rw [List.drop_eq_getElem_cons hjl]
        rw [List.getElem?_eq_getElem hjl] at hx
        injection hx with hx
        rw [hx]
      have hfv := (HX.out.2.1 x (List.mem_of_getElem? hx)).v
      rw [hd, List.map_cons, sumFrom_step] at hs
      have i0 : (0 : Int) ≤ (j : Int) := by omega
      have i1 : (j : Int) < (n : Int) := by omega
      have hb1 : Below w.heap.size w (wr.alloc (.cells #[.int .i64 x.v, .slice x.A x.n x.c] 24)) := Below.then_ hb ((Below.refl _ wr).alloc (Nat.le_refl _) _)
      obtain ⟨v, A', n', c', bs'⟩ := x
      simp only at c0 c1 hs hfv hb1
      by_cases hm : money v
      · have m1 := (money_iff v).2 hm
        have v0 : 0 ≤ v := hm.1
        have v1 : v ≤ 2000000000000 := hm.2
        by_cases hm2 : money (t + v)
        · have m2 := (money_iff (t + v)).2 hm2
          have s0 : 0 ≤ t + v := hm2.1
          have s1 : t + v ≤ 2000000000000 := hm2.2
          rw [if_pos ⟨hm, hm2⟩] at hs
          have HS := hide hs
          clear hs hrow hr hx hd hm hm2 hfv
          go_wp2_with (go_at_call 21; refine (Money_any _ _).mono ?_; rintro e w' ⟨rfl, rfl⟩)
          exact ⟨⟨j + 1, t + v, by omega, by simp, rfl, s0, s1, HS.out, hb1⟩, by simp [intOf]; omega⟩
        · have m2 : moneyB (t + v) = false := by unfold moneyB; simpa using hm2
          rw [if_neg (fun h => hm2 h.2)] at hs
          have HS := hide hs
          clear hs hrow hr hx hd hm hm2 hfv
          go_wp2_with (go_at_call 21; refine (Money_any _ _).mono ?_; rintro e w' ⟨rfl, rfl⟩)
          go_ret2
          exact ⟨by rw [HS.out]; rfl, hb1⟩
      · have m1 : moneyB v = false := by unfold moneyB; simpa using hm
        rw [if_neg (fun h => hm h.1)] at hs
        have HS := hide hs
        clear hs hrow hr hx hd hm
        go_wp2_with (go_at_call 21; refine (Money_any _ _).mono ?_; rintro e w' ⟨rfl, rfl⟩)
        go_ret2
        exact ⟨by rw [HS.out]; rfl, hb1⟩
    · obtain rfl : j = n := by omega
      rw [List.drop_of_length_le (by rw [HX.out.1]; exact Nat.le_refl _)] at hs
      have HS := hide hs
      clear hs
      go_wp2
      go_ret2
      exact ⟨by rw [HS.out]; rfl, hb⟩
end Go.Proofs.Ytfloclamdpageaa

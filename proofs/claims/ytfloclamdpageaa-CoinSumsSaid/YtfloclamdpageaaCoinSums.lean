/-
  CoinSums: the law's walk.
-/
import Derived.Test.YtfloclamdpageaaCoinF
namespace Go.Proofs.Ytfloclamdpageaa
open Go.RowKit

theorem below_drewN {w v : World} (h : Below w.heap.size w v) (n : Nat) : Below w.heap.size w (v.drewN n) := ⟨h.os, h.tape, h.output, h.size, h.block⟩
set_option maxHeartbeats 4000000 in
set_option maxRecDepth 100000 in
theorem coinsums_any (w : World) (A : Option Addr) (n c : Nat) (xs : List OutV) (h : Int) (hX : OutsIn w A n xs) (hh : h < 9223372036854775808) :
    Calls Try.prog 6 #[.slice A n c, .int .i64 h] w fun e w' => e = .returned (.bool true) ∧ Below w.heap.size w w' := by
  have HX := hide hX
  have HH := hide hh
  clear hX hh
  go_enter Try.func6, Try.ntmps6
  go_wp2_with fail
  refine (coinalive_any w).mono ?_
  rintro e w1 ⟨rfl, hb1⟩
  by_cases hn : n ≤ 100
  · have hn1 : (n : Int) ≤ 100 := by omega
    have HX1 := hide (HX.out.below' hb1)
    obtain ⟨S, hS⟩ : ∃ S, S = sumFrom (xs.map (·.v)) 0 := ⟨_, rfl⟩
    obtain ⟨s, e⟩ := S
    have HB1 := hide hb1
    clear hb1
    go_wp2_with fail
    refine (Sum_any w1 A n c xs HX1.out (by omega)).mono ?_
    rintro _ w2 ⟨rfl, hb2⟩
    rw [← hS]
    have HX2 := hide (HX1.out.below' hb2)
    have HB2 := hide (Below.then_ HB1.out hb2)
    clear hb2
    go_wp2_with fail
    refine (refsum_any w2 A n c xs HX2.out (by omega)).mono ?_
    rintro _ w3 ⟨rfl, hb3⟩
    rw [← hS]
    have HX3 := hide (HX2.out.below' hb3)
    have HB3 := hide (Below.then_ HB2.out hb3)
    clear hb3 hS
    go_wp2_with fail
    go_loopw [10, 28, 39] (fun _ i _ wr => ∃ j : Nat, j ≤ n ∧ i = .int .i64 j ∧ Below w3.heap.size w3 wr) (fun _ i _ _ => n - (intOf i).toNat)
    case atStart => exact ⟨0, by omega, rfl, Below.refl _ _⟩
    case round =>
      obtain ⟨j, hj, rfl, hb⟩ := hrel
      by_cases hlt : j < n
      · obtain ⟨b, off, rfl, hrow⟩ := HX3.out.2.2 (by omega)
        have hjl : j < xs.length := by rw [HX3.out.1]; exact hlt
        obtain ⟨x, hx⟩ : ∃ x, xs[j]? = some x := ⟨_, List.getElem?_eq_getElem hjl⟩
        have hr := range_under (hrow j x hx) hb
        have c0 := rangeAt_c0 hr
        have c1 := rangeAt_c1 hr
        have i0 : (0 : Int) ≤ (j : Int) := by omega
        have i1 : (j : Int) < (n : Int) := by omega
        have hb1 := hide (Below.then_ hb ((Below.refl _ wr).alloc (Nat.le_refl _) (.cells #[.int .i64 x.v, .slice x.A x.n x.c] 24)))
        obtain ⟨v, A', n', c', bs'⟩ := x
        simp only at c0 c1 hb1
        generalize hM : moneyB v = M
        clear hrow hr hx
        go_wp2_with fail
        go_quiet (first | (go_at_call 21; exact Calls.quiet_of_same ((Money_any _ _).mono fun _ _ h => ⟨h.1, h.2.symm⟩)) | (go_at_call 24; exact Calls.quiet_of_same ((refmoney_any _ _).mono fun _ _ h => ⟨h.1, h.2.symm⟩)))
        go_wp2_with fail
        exact ⟨⟨j + 1, by omega, by simp, below_drewN hb1.out _⟩, by simp [intOf]; omega⟩
      · obtain rfl : j = n := by omega
        generalize hZ : subsidy h = Z
        have hb4 := hide (Below.then_ HB3.out hb)
        go_wp2_with fail
        refine (Subsidy_any _ h (by have := HH.out; omega)).mono ?_
        rintro e w4 ⟨rfl, rfl⟩
        rw [hZ]
        go_wp2_with fail
        refine (refsubsidy_any _ h (by have := HH.out; omega)).mono ?_
        rintro e w4 ⟨rfl, rfl⟩
        rw [hZ]
        go_wp2_with fail
        go_ret
        exact ⟨by simp, hb4.out⟩
  · have hn1 : 100 < (n : Int) := by omega
    clear hn
    go_wp2_with fail
    go_ret
    exact ⟨rfl, hb1⟩
end Go.Proofs.Ytfloclamdpageaa

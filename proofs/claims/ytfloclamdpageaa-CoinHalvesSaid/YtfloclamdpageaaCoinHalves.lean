/-
  CoinHalves: the law's walk.
-/
import Derived.Test.YtfloclamdpageaaCoinF
namespace Go.Proofs.Ytfloclamdpageaa
open Go.RowKit

/-- All that is made in the first n times 150 heights. -/
def made : Nat → Int
  | 0 => 0
  | n + 1 => made n + 150 * subsidy (150 * n)
theorem subsidy_range (h : Int) : 0 ≤ subsidy h ∧ subsidy h ≤ 5000000000 := by
  unfold subsidy
  split
  · decide
  · exact ⟨Int.ediv_nonneg (by decide) (Int.le_of_lt (Int.pow_pos (by decide))), Int.ediv_le_self _ (by decide)⟩
theorem made_range (n : Nat) : 0 ≤ made n ∧ made n ≤ n * 750000000000 := by
  induction n with
  | zero => simp [made]
  | succ n ih =>
    have := subsidy_range (150 * n)
    simp only [made]
    omega
theorem subsidy_next (h : Int) (h0 : 0 ≤ h) : subsidy (h + 150) = subsidy h / 2 := by
  have e : ((h + 150) / 150).toNat = (h / 150).toNat + 1 := by omega
  rw [subsidy, subsidy, if_neg (by omega), if_neg (by omega), e, Int.pow_succ, Int.ediv_ediv_of_nonneg (Int.le_of_lt (Int.pow_pos (by decide)))]
theorem subsidy_less (h : Int) (h0 : 0 ≤ h) : subsidy (h + 1) ≤ subsidy h := by
  by_cases hq : ((h + 1) / 150).toNat = (h / 150).toNat
  · rw [subsidy, subsidy, if_neg (by omega), if_neg (by omega), hq]; exact Int.le_refl _
  · have e : ((h + 1) / 150).toNat = (h / 150).toNat + 1 := by omega
    have h1 : subsidy (h + 1) = subsidy h / 2 := by
      rw [subsidy, subsidy, if_neg (by omega), if_neg (by omega), e, Int.pow_succ, Int.ediv_ediv_of_nonneg (Int.le_of_lt (Int.pow_pos (by decide)))]
    have := subsidy_range h
    omega
theorem made_all : moneyB (made 40) = true := by kernel_rfl
set_option maxHeartbeats 4000000 in
set_option maxRecDepth 100000 in
theorem halves_any (w : World) (h : Int) (hh : h ≤ 9223372036854775807) : Calls Try.prog 4 #[.int .i64 h] w fun e w' => e = .returned (.bool true) ∧ Below w.heap.size w w' := by
  have HH := hide hh
  clear hh
  go_enter Try.func4, Try.ntmps4
  go_wp2_with fail
  refine (coinalive_any w).mono ?_
  rintro e w1 ⟨rfl, hb1⟩
  by_cases h0 : h < 0
  · have hs : subsidy h = 0 := by simp [subsidy, h0]
    go_wp2_with fail
    refine (Subsidy_any _ h (by have := HH.out; omega)).mono ?_
    rintro e w2 ⟨rfl, rfl⟩
    rw [hs]
    go_wp2_with fail
    go_ret
    exact ⟨rfl, hb1⟩
  · by_cases h9 : 1000000000 < h
    · have hp : 0 < h := by omega
      obtain ⟨S, hS⟩ : ∃ S, S = subsidy h := ⟨_, rfl⟩
      go_wp2_with fail
      refine (Subsidy_any _ h (by have := HH.out; omega)).mono ?_
      rintro e w2 ⟨rfl, rfl⟩
      rw [← hS]
      by_cases hz : S = 0
      · subst hz
        go_wp2_with fail
        go_ret
        exact ⟨rfl, hb1⟩
      · have hz' : (S == 0) = false := by simpa using hz
        clear hS
        go_wp2_with fail
        go_ret
        exact ⟨rfl, hb1⟩
    · have h1 : 0 ≤ h := by omega
      have h2 : h ≤ 1000000000 := by omega
      have hu1 : IntKind.i64.wrap (h + 150) = h + 150 := by rw [IntKind.wrap_i64]; omega
      have hu2 : IntKind.i64.wrap (h + 1) = h + 1 := by rw [IntKind.wrap_i64]; omega
      have r0 := subsidy_range h
      have n1 := hide (subsidy_next h h1)
      have n2 := hide (subsidy_less h h1)
      have hm0 : moneyB (subsidy h) = true := (money_iff _).2 ⟨r0.1, by omega⟩
      obtain ⟨S, hS⟩ : ∃ S, S = subsidy h := ⟨_, rfl⟩
      have hS2 : subsidy (h + 150) = S / 2 := by rw [n1.out, hS]
      have hS3 : subsidy (h + 1) ≤ S := by rw [hS]; exact n2.out
      rw [← hS] at r0 hm0
      have hS4 : S.tdiv 2 = S / 2 := Int.tdiv_eq_ediv_of_nonneg r0.1
      go_wp2_with fail
      refine (Subsidy_any _ h (by have := HH.out; omega)).mono ?_
      rintro e w2 ⟨rfl, rfl⟩
      rw [← hS]
      clear hS n1 n2
      go_wp2_with fail
      refine (Subsidy_any _ (h + 150) (by omega)).mono ?_
      rintro e w2 ⟨rfl, rfl⟩
      rw [hS2]
      go_wp2_with fail
      go_loop [5, 6] (fun a i => ∃ j : Nat, j ≤ 40 ∧ a = .int .i64 (made j) ∧ i = .int .i64 (j : Int)) (fun _ i => 40 - (intOf i).toNat)
      case atStart => exact ⟨0, by omega, rfl, rfl⟩
      case round =>
        obtain ⟨j, hj, rfl, rfl⟩ := hrel
        have hmr := made_range j
        have hsr := subsidy_range (150 * j)
        obtain ⟨J, hJ⟩ : ∃ J : Int, J = (j : Int) := ⟨_, rfl⟩
        have hmul : IntKind.i64.wrap (150 * J) = 150 * J := by rw [IntKind.wrap_i64]; omega
        have hst : made (j + 1) = made j + 150 * subsidy (150 * J) := by rw [hJ]; rfl
        rw [← hJ] at hsr hmr
        obtain ⟨T, hT⟩ : ∃ T, T = subsidy (150 * J) := ⟨_, rfl⟩
        obtain ⟨a, ha⟩ : ∃ a, a = made j := ⟨_, rfl⟩
        rw [← hT] at hst hsr
        rw [← ha] at hst hmr
        have hJ40 : J ≤ 40 := by omega
        have hJ0 : 0 ≤ J := by omega
        have hw1 : IntKind.i64.wrap (150 * T) = 150 * T := by rw [IntKind.wrap_i64]; omega
        have hw2 : IntKind.i64.wrap (a + 150 * T) = a + 150 * T := by rw [IntKind.wrap_i64]; omega
        have hw3 : IntKind.i64.wrap (J + 1) = J + 1 := by rw [IntKind.wrap_i64]; omega
        rw [← hJ, ← ha]
        by_cases hlt : J < 40
        · have HJ := hide (show j + 1 ≤ 40 by omega)
          have HS := hide hst
          have HJ2 := hide hJ
          have HT := hide hT
          clear hJ hst ha hmr hsr hT
          go_wp2_with fail
          refine (Subsidy_any _ (150 * J) (by omega)).mono ?_
          rintro e w2 ⟨rfl, rfl⟩
          rw [← HT.out]
          go_wp2_with fail
          exact ⟨⟨j + 1, HJ.out, by rw [HS.out], by rw [HJ2.out]; rfl⟩, by have := HJ2.out; simp only [intOf]; omega⟩
        · have hj40 : j = 40 := by omega
          have hal : moneyB a = true := by rw [ha, hj40]; exact made_all
          have hge : 40 ≤ J := by omega
          clear ha hst hJ hmr hsr hT hw1 hw2 hmul
          go_wp2_with fail
          refine (Subsidy_any _ (h + 1) (by omega)).mono ?_
          rintro e w2 ⟨rfl, rfl⟩
          obtain ⟨Z, hZ⟩ : ∃ Z, Z = subsidy (h + 1) := ⟨_, rfl⟩
          rw [← hZ] at hS3 ⊢
          clear hZ
          go_wp2_with fail
          refine (Money_any _ S).mono ?_
          rintro e w2 ⟨rfl, rfl⟩
          rw [hm0]
          go_wp2_with fail
          refine (Money_any _ a).mono ?_
          rintro e w2 ⟨rfl, rfl⟩
          rw [hal]
          go_wp2_with fail
          go_ret
          exact ⟨by simp, hb1⟩
end Go.Proofs.Ytfloclamdpageaa

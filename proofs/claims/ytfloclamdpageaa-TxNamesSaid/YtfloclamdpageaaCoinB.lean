/-
  coin: Subsidy; the document's Sum and Subsidy.
-/
import Derived.Test.YtfloclamdpageaaCoinA
namespace Go.Proofs.Ytfloclamdpageaa
open Go.RowKit

theorem shr_sub (q : Int) (h0 : 0 ≤ q) (h1 : q ≤ 63) (w : World) : (Op.shift .shr .i64 5000000000 .i64 q).run Try.prog w = .ok (.int .i64 (5000000000 / 2 ^ q.toNat)) w := by
  have e : min q.toNat IntKind.i64.bits = q.toNat := by simp only [IntKind.bits]; omega
  have hn : ¬ q < 0 := by omega
  unfold Op.shift
  rw [if_neg hn]
  simp only [e, Sem.run_pure]
  rw [Int.fdiv_eq_ediv_of_nonneg _ (Int.le_of_lt (Int.pow_pos (by decide)))]
set_option maxHeartbeats 1000000 in
set_option maxRecDepth 100000 in
theorem Subsidy_any (w : World) (h : Int) (hh : h < 9223372036854775808) : Calls Try.prog 20 #[.int .i64 h] w fun e w' => e = .returned (.int .i64 (subsidy h)) ∧ w = w' := by
  by_cases h0 : h < 0
  · have E : Hid (subsidy h = 0) := hide (by simp [subsidy, h0])
    clear hh
    go_enter Try.func20, Try.ntmps20
    go_wp2
    go_ret
    exact ⟨by rw [E.out]; rfl, rfl⟩
  · have h1 : 0 ≤ h := by omega
    obtain ⟨q, hq⟩ : ∃ q, q = h / 150 := ⟨_, rfl⟩
    have q0 : 0 ≤ q := by omega
    have hw : wrap64 (h.tdiv 150) = q := by
      rw [Int.tdiv_eq_ediv_of_nonneg h1, ← hq, ← IntWalk.i64_left, IntKind.wrap_i64]
      omega
    by_cases h63 : q ≤ 63
    · have hs := shr_sub q q0 h63
      have E : Hid (subsidy h = 5000000000 / 2 ^ q.toNat) := hide (by rw [subsidy, if_neg h0, hq])
      clear hq h0 hh
      go_enter Try.func20, Try.ntmps20
      go_wp2
      go_ret
      exact ⟨by rw [E.out]; rfl, rfl⟩
    · have hs := shr_sub 63 (by decide) (by decide)
      have E : Hid (subsidy h = 5000000000 / 2 ^ (63 : Int).toNat) := hide (by rw [subsidy_late h (by omega)]; decide)
      have h64 : 63 < q := by omega
      clear hq h0 h63 hh
      go_enter Try.func20, Try.ntmps20
      go_wp2
      go_ret
      exact ⟨by rw [E.out]; rfl, rfl⟩
theorem half_pow (k : Nat) : (5000000000 / 2 ^ k : Int).tdiv 2 = 5000000000 / 2 ^ (k + 1) := by
  have h0 : (0 : Int) ≤ 5000000000 / 2 ^ k := Int.ediv_nonneg (by decide) (Int.le_of_lt (Int.pow_pos (by decide)))
  rw [Int.tdiv_eq_ediv_of_nonneg h0, Int.ediv_ediv_of_nonneg (Int.le_of_lt (Int.pow_pos (by decide))), Int.pow_succ]
set_option maxHeartbeats 1000000 in
set_option maxRecDepth 100000 in
theorem refsubsidy_any (w : World) (h : Int) (hh : h < 9223372036854775808) : Calls Try.prog 25 #[.int .i64 h] w fun e w' => e = .returned (.int .i64 (subsidy h)) ∧ w = w' := by
  have HH := hide hh
  clear hh
  by_cases h0 : h < 0
  · have E : Hid (subsidy h = 0) := hide (by simp [subsidy, h0])
    go_enter Try.func25, Try.ntmps25
    go_wp2
    go_ret
    exact ⟨by rw [E.out]; rfl, rfl⟩
  · have h1 : 0 ≤ h := by omega
    go_enter Try.func25, Try.ntmps25
    go_wp2
    go_loop [3, 4] (fun n x => ∃ (k : Nat) (N y : Int), 0 ≤ y ∧ y = h - 150 * k ∧ N = 5000000000 / 2 ^ k ∧ n = .int .i64 N ∧ x = .int .i64 y) (fun _ x => (intOf x).toNat)
    case atStart => exact ⟨0, 5000000000, h, h1, by omega, by decide, rfl, rfl⟩
    case round =>
      obtain ⟨k, N, y, y0, hy, hN, rfl, rfl⟩ := hrel
      have N0 : 0 ≤ N := by rw [hN]; exact Int.ediv_nonneg (by decide) (Int.le_of_lt (Int.pow_pos (by decide)))
      have N1 : N ≤ 5000000000 := by rw [hN]; exact Int.ediv_le_self _ (by decide)
      have hup : y ≤ 9223372036854775807 := by have := HH.out; omega
      by_cases hlt : 150 ≤ y
      · by_cases hN0 : 0 < N
        · have HN := hide hN
          have HY := hide hy
          have hh2 : N.tdiv 2 = N / 2 := Int.tdiv_eq_ediv_of_nonneg N0
          have HP := hide (half_pow k)
          clear hN hy
          go_wp2
          refine ⟨⟨k + 1, N / 2, y - 150, by omega, by have := HY.out; omega, ?_, rfl, rfl⟩, by simp [intOf]; omega⟩
          rw [← HP.out, ← HN.out, hh2]
        · have E : Hid (subsidy h = N) := hide (by
            have hz : N = 0 := by omega
            rw [hz] at hN ⊢
            rw [subsidy, if_neg (Int.not_lt.2 h1)]
            obtain ⟨m, hm⟩ : ∃ m, (h / 150).toNat = k + m := ⟨(h / 150).toNat - k, by omega⟩
            rw [hm, Int.pow_add, ← Int.ediv_ediv_of_nonneg (Int.le_of_lt (Int.pow_pos (by decide))), ← hN]
            simp)
          clear hN hy
          go_wp2
          go_ret
          exact ⟨by rw [E.out]; rfl, rfl⟩
      · have E : Hid (subsidy h = N) := hide (by
          rw [subsidy, if_neg (Int.not_lt.2 h1), hN]
          congr 2
          omega)
        have hlt' : y < 150 := by omega
        clear hN hy
        go_wp2
        go_ret
        exact ⟨by rw [E.out]; rfl, rfl⟩
set_option maxHeartbeats 2000000 in
set_option maxRecDepth 100000 in
theorem refsum_any (w : World) (A : Option Addr) (n c : Nat) (xs : List OutV) (hX : OutsIn w A n xs) (hn : (n : Int) ≤ 1000000) :
    Calls Try.prog 23 #[.slice A n c] w fun e w' => e = .returned (.tuple #[.int .i64 (sumFrom (xs.map (·.v)) 0).1, .int .i64 (sumFrom (xs.map (·.v)) 0).2]) ∧ Below w.heap.size w w' := by
  have HX := hide hX
  clear hX
  go_enter Try.func23, Try.ntmps23
  go_wp2
  go_loopw [4, 6, 9] (fun s _ i wr => ∃ (j : Nat) (t : Int), j ≤ n ∧ i = .int .i64 j ∧ s = .int .i64 t ∧ 0 ≤ t ∧ t ≤ 2000000000000 ∧ sumFrom (xs.map (·.v)) 0 = sumFrom ((xs.drop j).map (·.v)) t ∧ Below w.heap.size w wr) (fun _ _ i _ => n - (intOf i).toNat)
  case atStart => exact ⟨0, 0, by omega, rfl, rfl, by omega, by omega, by simp, Below.refl _ _⟩
  case round =>
    obtain ⟨j, t, hj, rfl, rfl, t0, t1, hs, hb⟩ := hrel
    by_cases hlt : j < n
    · obtain ⟨b, off, rfl, hrow⟩ := HX.out.2.2 (by omega)
      have hjl : j < xs.length := by rw [HX.out.1]; exact hlt
      obtain ⟨x, hx⟩ : ∃ x, xs[j]? = some x := ⟨_, List.getElem?_eq_getElem hjl⟩
      have hr := range_under (hrow j x hx) hb
      have c0 := rangeAt_c0 hr
      have c1 := rangeAt_c1 hr
      have hd : xs.drop j = x :: xs.drop (j + 1) := by
        rw [List.drop_eq_getElem_cons hjl]
        rw [List.getElem?_eq_getElem hjl] at hx
        injection hx with hx
        rw [hx]
      rw [hd, List.map_cons, sumFrom_step] at hs
      have i0 : (0 : Int) ≤ (j : Int) := by omega
      have i1 : (j : Int) < (n : Int) := by omega
      have hb1 : Below w.heap.size w (wr.alloc (.cells #[.int .i64 x.v, .slice x.A x.n x.c] 24)) := Below.then_ hb ((Below.refl _ wr).alloc (Nat.le_refl _) _)
      obtain ⟨v, A', n', c', bs'⟩ := x
      simp only at c0 c1 hs hb1
      by_cases hm : money v
      · have m1 := (money_iff v).2 hm
        have v0 : 0 ≤ v := hm.1
        have v1 : v ≤ 2000000000000 := hm.2
        by_cases hm2 : v ≤ 2000000000000 - t
        · have hm3 : money (t + v) := ⟨by omega, by omega⟩
          have s0 : 0 ≤ t + v := hm3.1
          have s1 : t + v ≤ 2000000000000 := hm3.2
          rw [if_pos ⟨hm, hm3⟩] at hs
          have HS := hide hs
          clear hs hrow hr hx hd hm hm3
          go_wp2_with (go_at_call 24; refine (refmoney_any _ _).mono ?_; rintro e w' ⟨rfl, rfl⟩)
          exact ⟨⟨j + 1, t + v, by omega, by simp, rfl, s0, s1, HS.out, hb1⟩, by simp [intOf]; omega⟩
        · have hm3 : ¬ money (t + v) := fun h => by have := h.2; omega
          have hm4 : 2000000000000 - t < v := by omega
          rw [if_neg (fun h => hm3 h.2)] at hs
          have HS := hide hs
          clear hs hrow hr hx hd hm hm3 hm2
          go_wp2_with (go_at_call 24; refine (refmoney_any _ _).mono ?_; rintro e w' ⟨rfl, rfl⟩)
          go_ret2
          exact ⟨by rw [HS.out]; rfl, hb1⟩
      · have m1 : moneyB v = false := by unfold moneyB; simpa using hm
        rw [if_neg (fun h => hm h.1)] at hs
        have HS := hide hs
        clear hs hrow hr hx hd hm
        go_wp2_with (go_at_call 24; refine (refmoney_any _ _).mono ?_; rintro e w' ⟨rfl, rfl⟩)
        go_ret2
        exact ⟨by rw [HS.out]; rfl, hb1⟩
    · obtain rfl : j = n := by omega
      rw [List.drop_of_length_le (by rw [HX.out.1]; exact Nat.le_refl _)] at hs
      have HS := hide hs
      clear hs
      go_wp2
      go_ret2
      exact ⟨by rw [HS.out]; rfl, hb⟩
end Go.Proofs.Ytfloclamdpageaa

import Derived.Test.YtjnpkcabkccaoaaPk21
import Derived.Test.YtjnpkcabkccaoaaPk20
/-
  TableMerges: its walk.
-/
namespace Go.Proofs.Ytjnpkcabkccaoaa
open Go.RowKit

theorem RMerge.in_ {w w' : World} {xs ys : List PairV} {g k c : Nat} {zs : List PairV} (hr : RRow w w' g k c zs) (hm : ∀ z ∈ zs, z ∈ xs ∨ z ∈ ys) (hx : ∀ z ∈ xs, z.Fine w) (hy : ∀ z ∈ ys, z.Fine w) : PairsIn w' (some ⟨g, 0, none⟩) k zs :=
  hr.in_ fun z hz => by
    rcases hm z hz with h | h
    · exact (hx z h).below hr.below
    · exact (hy z h).below hr.below
theorem same_self (l : List PairD) : sameP l l = true := decide_eq_true rfl
attribute [local go_sem ↓] loadPr_fold
set_option maxHeartbeats 8000000 in
set_option maxRecDepth 100000 in
theorem tmerges_any (w : World) (A B : Option Addr) (n c m d : Nat) (xs ys : List PairV) (hX : PairsIn w A n xs) (hxc : n ≤ c) (hY : PairsIn w B m ys) (hyc : m ≤ d) :
    Calls Try.prog 10 #[.slice A n c, .slice B m d] w fun e w' => e = .returned (.bool true) ∧ Below w.heap.size w w' := by
  have HX := hide hX
  have HY := hide hY
  have HXC := hide hxc
  have HYC := hide hyc
  obtain ⟨a, ha⟩ : ∃ a, a = xs.map PairV.d := ⟨_, rfl⟩
  obtain ⟨b, hb⟩ : ∃ b, b = ys.map PairV.d := ⟨_, rfl⟩
  have HA := hide ha
  have HB := hide hb
  have LA := hide (show a.length = n by rw [ha, List.length_map, hX.1])
  have LB := hide (show b.length = m by rw [hb, List.length_map, hY.1])
  clear ha hb hX hY hxc hyc
  go_enter Try.func10, Try.ntmps10
  go_wp2_with fail
  refine (talive_any w).mono ?_
  rintro e w1 ⟨rfl, b1⟩
  have B1 := hide b1
  have X1 := hide (HX.out.below' b1)
  have Y1 := hide (HY.out.below' b1)
  clear b1
  go_wp2_with fail
  refine (great_any w1 A n c xs X1.out).mono ?_
  rintro e w2 ⟨rfl, b2⟩
  have B2 := hide (Below.then_ B1.out b2)
  have X2 := hide (X1.out.below' b2)
  have Y2 := hide (Y1.out.below' b2)
  clear b2
  rw [← HA.out]
  cases ga : greatP a with
  | true =>
    clear ga
    go_wp2_with fail
    go_ret
    exact ⟨rfl, B2.out⟩
  | false =>
    have GA := hide (great_small ga)
    clear ga
    go_wp2_with fail
    refine (great_any w2 B m d ys Y2.out).mono ?_
    rintro e w3 ⟨rfl, b3⟩
    have B3 := hide (Below.then_ B2.out b3)
    have X3 := hide (X2.out.below' b3)
    have Y3 := hide (Y2.out.below' b3)
    clear b3
    rw [← HB.out]
    cases gb : greatP b with
    | true =>
      clear gb
      go_wp2_with fail
      go_ret
      exact ⟨rfl, B3.out⟩
    | false =>
      have GB := hide (great_small gb)
      clear gb
      have NA := hide (show n ≤ 40 by rw [← LA.out]; exact GA.out.1)
      have NB := hide (show m ≤ 40 by rw [← LB.out]; exact GB.out.1)
      have SA := hide (psize_small X3.out (by rw [← HA.out]; have := GA.out.2; omega))
      have SB := hide (psize_small Y3.out (by rw [← HB.out]; have := GB.out.2; omega))
      go_wp2_with fail
      refine (refRight_any w3 A n c xs X3.out (by have := NA.out; omega) SA.out).mono ?_
      rintro e w4 ⟨rfl, b4⟩
      have B4 := hide (Below.then_ B3.out b4)
      have X4 := hide (X3.out.below' b4)
      have Y4 := hide (Y3.out.below' b4)
      clear b4
      rw [← HA.out]
      cases ra : rightB a with
      | false =>
        clear ra
        go_wp2_with fail
        go_ret
        exact ⟨rfl, B4.out⟩
      | true =>
        have RA := hide ra
        clear ra
        go_wp2_with fail
        refine (refRight_any w4 B m d ys Y4.out (by have := NB.out; omega) SB.out).mono ?_
        rintro e w5 ⟨rfl, b5⟩
        have B5 := hide (Below.then_ B4.out b5)
        have X5 := hide (X4.out.below' b5)
        have Y5 := hide (Y4.out.below' b5)
        clear b5
        rw [← HB.out]
        cases rb : rightB b with
        | false =>
          clear rb
          go_wp2_with fail
          go_ret
          exact ⟨rfl, B5.out⟩
        | true =>
          have RB := hide rb
          have n9 : (n : Int) ≤ 40 := by have := NA.out; omega
          clear rb
          go_wp2_with fail
          go_loopw [28] (fun i wr => ∃ j : Nat, j ≤ n ∧ i = .int .i64 (j : Int) ∧ Below w5.heap.size w5 wr) (fun i _ => n - (intOf i).toNat)
          case atStart => exact ⟨0, Nat.zero_le _, rfl, Below.refl _ _⟩
          case round =>
            obtain ⟨j, hj, rfl, hb⟩ := hrel
            have BW := hide hb
            have XR := hide (X5.out.below' hb)
            have YR := hide (Y5.out.below' hb)
            have B05 := hide (Below.then_ B5.out hb)
            have j0 : (0 : Int) ≤ (j : Int) := by omega
            clear hb
            by_cases hlt : j < n
            · obtain ⟨xb, xo, hxa, hxr⟩ := XR.out.2.2 (by omega)
              subst hxa
              obtain ⟨x, hx⟩ : ∃ x, xs[j]? = some x := ⟨_, List.getElem?_eq_getElem (by rw [XR.out.1]; exact hlt)⟩
              have hld := loadPr_run wr xb (xo + j * 3) x (hxr j x hx)
              have HLT := hide hlt
              have j1 : (j : Int) < (n : Int) := by omega
              clear hx hxr hlt hj
              cases hg : x.gone with
              | true =>
                have HG := hide hg
                clear hg
                have tokA : True := trivial
                have tokB : True := trivial
                go_wp2_with (first
                  | (have _t := tokA; clear _t tokA; refine wpList_alloc_agg rfl 100 rfl zeroPr zeroPr_info ?_; simp only [Act.put, sT, sZ, sS])
                  | (have _t := tokB; clear _t tokB; refine pr_store rfl _ _ rfl wr rfl (by rfl) x (by rfl) ?_; intro w6 b6 s6 k6; have B6 := hide b6; have y2 := k6.c2; rw [HG.out] at y2; clear b6 s6 k6 hld; simp only [Act.put]))
                go_ret
                exact ⟨rfl, Below.then_ B05.out B6.out⟩
              | false =>
                have HG := hide hg
                clear hg
                have tokA : True := trivial
                have tokB : True := trivial
                go_wp2_with (first
                  | (have _t := tokA; clear _t tokA; refine wpList_alloc_agg rfl 100 rfl zeroPr zeroPr_info ?_; simp only [Act.put, sT, sZ, sS])
                  | (have _t := tokB; clear _t tokB; refine pr_store rfl _ _ rfl wr rfl (by rfl) x (by rfl) ?_; intro w6 b6 s6 k6; have B6 := hide b6; have y2 := k6.c2; rw [HG.out] at y2; clear b6 s6 k6 hld; simp only [Act.put]))
                exact ⟨⟨j + 1, by have := HLT.out; omega, by go_num, Below.then_ BW.out B6.out⟩, by have := HLT.out; simp [intOf]; omega⟩
            · have j1 : ¬ (j : Int) < (n : Int) := by omega
              clear hlt hj
              have ME := hide (merge_eq (right_sorted RA.out) (right_sorted RB.out))
              have MR := hide (mergeD_right RA.out RB.out)
              have ML := hide (merge_len a b)
              go_wp2_with fail
              refine (PMerge_any wr A n c xs B m d ys XR.out YR.out HXC.out HYC.out (by have := NA.out; omega) (by have := NB.out; omega) SA.out SB.out).mono ?_
              rintro e w6 ⟨A6, k6, c6, zs, rfl, hz, hr6, b6⟩
              rw [← HA.out, ← HB.out] at hz
              have HZ := hide hz
              have R6 := hide hr6
              have B6 := hide (Below.then_ B05.out b6)
              have X6 := hide (XR.out.below' b6)
              have Y6 := hide (YR.out.below' b6)
              have K6 := hide (show k6 ≤ 80 by
                have h7 := congrArg List.length hz
                rw [List.length_map, hr6.len] at h7
                have := ML.out; have := LA.out; have := LB.out; have := NA.out; have := NB.out
                omega)
              have Z6 := hide hr6.in_
              clear hz hr6 b6
              go_wp2_with fail
              refine (refMergeP_any w6 A B n c m d xs ys X6.out Y6.out (by have := NA.out; omega) (by have := NB.out; omega)).mono ?_
              rintro e w7 ⟨g7, k7, c7, us, rfl, hu, hr7, hmem⟩
              rw [← HA.out, ← HB.out] at hu
              have HU := hide hu
              have U7 := hide (RMerge.in_ hr7 hmem X6.out.2.1 Y6.out.2.1)
              have B7 := hide (Below.then_ B6.out hr7.below)
              have Z7 := hide (Z6.out.below' hr7.below)
              have K7 := hide (show k7 ≤ 80 by
                have h7 := congrArg List.length hu
                rw [List.length_map, hr7.len, ME.out] at h7
                have := ML.out; have := LA.out; have := LB.out; have := NA.out; have := NB.out
                omega)
              clear hu hr7 hmem
              go_wp2_with fail
              have hs := refSameP_any w7 A6 (some ⟨g7, 0, none⟩) k6 c6 k7 c7 zs us Z7.out U7.out (by have := K6.out; omega) (by have := K7.out; omega)
              rw [HZ.out, HU.out, ME.out, same_self] at hs
              refine hs.mono ?_
              rintro e w8 ⟨rfl, b8⟩
              have B8 := hide (Below.then_ B7.out b8)
              have Z8 := hide (Z7.out.below' b8)
              clear b8 hs
              have SZ := hide (right_small Z8.out (by rw [HZ.out]; exact MR.out))
              go_wp2_with fail
              refine (PMerge_any w8 A6 k6 c6 zs none 0 0 [] Z8.out (RowsIn.nil _ _ _ _ _) R6.out.cap (Nat.le_refl _) (by have := K6.out; omega) (by decide) SZ.out (by simp)).mono ?_
              rintro e w9 ⟨A9, k9, c9, ts, rfl, ht, hr9, b9⟩
              rw [HZ.out, List.map_nil, mergeD_nil] at ht
              have HT := hide ht
              have B9 := hide (Below.then_ B8.out b9)
              have Z9 := hide (Z8.out.below' b9)
              have T9 := hide hr9.in_
              have K9 := hide (show k9 ≤ 80 by
                have h7 := congrArg List.length ht
                rw [List.length_map, hr9.len] at h7
                have := ML.out; have := LA.out; have := LB.out; have := NA.out; have := NB.out
                omega)
              clear ht hr9 b9
              go_wp2_with fail
              have hs := refSameP_any w9 A9 A6 k9 c9 k6 c6 ts zs T9.out Z9.out (by have := K9.out; omega) (by have := K6.out; omega)
              rw [HZ.out, HT.out, same_self] at hs
              refine hs.mono ?_
              rintro e wa ⟨rfl, ba⟩
              have Ba := hide (Below.then_ B9.out ba)
              have Za := hide (Z9.out.below' ba)
              clear ba hs
              go_wp2_with fail
              have hs := refRight_any wa A6 k6 c6 zs Za.out (by have := K6.out; omega) SZ.out
              rw [HZ.out, MR.out] at hs
              refine hs.mono ?_
              rintro e wb ⟨rfl, bb⟩
              have Bb := hide (Below.then_ Ba.out bb)
              clear bb hs
              go_wp2_with fail
              go_ret
              exact ⟨rfl, Bb.out⟩
end Go.Proofs.Ytjnpkcabkccaoaa

/- Lemmas and walks for TableRuns, packed. -/
import Derived.Test.YtjnpkcabkccaoaaGreatQ36
set_option maxRecDepth 100000
set_option maxHeartbeats 16000000
namespace Go.Proofs.YtjnpkcabkccaoaaGreat
open Go.RowKit
section
def sameP (a b : List PairD) : Bool := decide (a = b)
theorem same_step (a b : List PairD) (j : Nat) (x y : PairD) (hx : a[j]? = some x) (hy : b[j]? = some y) (h : a = b ↔ a.drop j = b.drop j) : a = b ↔ x = y ∧ a.drop (j + 1) = b.drop (j + 1) := by
 obtain ⟨h1, e1⟩ := List.getElem?_eq_some_iff.1 hx
 obtain ⟨h2, e2⟩ := List.getElem?_eq_some_iff.1 hy
 rw [h, List.drop_eq_getElem_cons h1, List.drop_eq_getElem_cons h2, e1, e2, List.cons.injEq]
theorem ba_ne {a b : List Int} (ha : Byt a) (hb : Byt b) (h : a ≠ b) : (ba a).toList ≠ (ba b).toList := fun e => h (by
 have h1 := baBeq a b ha hb
 rw [e] at h1
 simp at h1
 exact h1)
theorem refSameP_any (w : World) (A B : Option Addr) (n c m d : Nat) (xs ys : List PairV) (hX : PairsIn w A n xs) (hY : PairsIn w B m ys) (hn : n ≤ 1000000000000) (hm : m ≤ 1000000000000) :
  Calls Tryz.prog 18 #[.slice A n c, .slice B m d] w fun e w' => e = .returned (.bool (sameP (xs.map PairV.d) (ys.map PairV.d))) ∧ Below w.heap.size w w' := by
 obtain ⟨a, ha⟩ : ∃ a, a = xs.map PairV.d := ⟨_, rfl⟩
 obtain ⟨b, hb⟩ : ∃ b, b = ys.map PairV.d := ⟨_, rfl⟩
 have HA := hide ha
 have HB := hide hb
 have HX := hide hX
 have HY := hide hY
 have LA := hide (show a.length = n by rw [ha, List.length_map, hX.1])
 have LB := hide (show b.length = m by rw [hb, List.length_map, hY.1])
 have n9 : (n : Int) ≤ 1000000000000 := by omega
 have m9 : (m : Int) ≤ 1000000000000 := by omega
 rw [← ha, ← hb]
 clear ha hb hX hY hn hm
 by_cases hnm : n = m
 ·subst hnm
  clear m9
  go_enter Tryz.func18, Tryz.ntmps18
  go_wp2_with fail
  go_loopw [13] (fun i wr => ∃ j : Nat, j ≤ n ∧ i = .int .i64 (j : Int) ∧ (a = b ↔ a.drop j = b.drop j) ∧ Below w.heap.size w wr) (fun i _ => n - (intOf i).toNat)
  case atStart => exact ⟨0, by omega, rfl, Iff.rfl, Below.refl _ _⟩
  case round =>
   obtain ⟨j, hj, rfl, hs, hb⟩ := hrel
   have BW := hide hb
   have XR := hide (HX.out.below' hb)
   have YR := hide (HY.out.below' hb)
   by_cases hlt : j < n
   ·obtain ⟨xb, xo, hxa, hxr⟩ := XR.out.2.2 (by omega)
    obtain ⟨yb, yo, hya, hyr⟩ := YR.out.2.2 (by omega)
    subst hxa; subst hya
    obtain ⟨x, hx⟩ : ∃ x, xs[j]? = some x := ⟨_, List.getElem?_eq_getElem (by rw [XR.out.1]; exact hlt)⟩
    obtain ⟨y, hy⟩ : ∃ y, ys[j]? = some y := ⟨_, List.getElem?_eq_getElem (by rw [YR.out.1]; exact hlt)⟩
    have HS := hide (same_step a b j x.d y.d (by rw [HA.out]; exact pmap_get hx) (by rw [HB.out]; exact pmap_get hy) hs)
    have XF := hide (XR.out.2.1 x (List.mem_of_getElem? hx))
    have YF := hide (YR.out.2.1 y (List.mem_of_getElem? hy))
    have XC := hide (hxr j x hx)
    have YC := hide (hyr j y hy)
    have HLT := hide hlt
    have j0 : (0 : Int) ≤ (j : Int) := by omega
    have j1 : (j : Int) < (n : Int) := by omega
    clear hs hb hx hy hxr hyr hlt hj
    obtain ⟨S1, hS1⟩ : ∃ S, S = ba x.key := ⟨_, rfl⟩
    have HS1 := hide hS1
    by_cases hk : x.key = y.key
    ·have HS2 := hide (show S1 = ba y.key by rw [hS1, hk])
     have HK := hide hk
     clear hk hS1
     obtain ⟨V1, hV1⟩ : ∃ S, S = ba x.value := ⟨_, rfl⟩
     have HV1 := hide hV1
     by_cases hv : x.value = y.value
     ·have HV2 := hide (show V1 = ba y.value by rw [hV1, hv])
      have HV := hide hv
      clear hv hV1
      cases hg : x.gone with
      | true =>
       cases hg2 : y.gone with
       | true =>
        have HE := hide (show a = b ↔ a.drop (j + 1) = b.drop (j + 1) from HS.out.trans ⟨fun h => h.2, fun h => ⟨by simp only [PairV.d]; rw [HK.out, HV.out, hg, hg2], h⟩⟩)
        have HG1 := hide hg
        have HG2 := hide hg2
        clear hg hg2
        go_wp2_with fail
        refine wp_region_held_drew (S := fun w' => Below wr.heap.size wr w') (by kernel_rfl) ((Below.refl _ wr).drew) (fun hSA0 => ?_)
        obtain ⟨wrd, hwA⟩ : ∃ x, x = wr.drew := ⟨_, rfl⟩
        rw [← hwA] at hSA0 ⊢
        clear hwA
        refine tq 0 rfl hSA0 ?_
        refine tq 1 rfl hSA0 ?_
        refine tq 2 rfl hSA0 ?_
        refine tq 3 rfl hSA0 ?_
        (refine tq 4 rfl hSA0 ?_ (fun w' hSw => by have z : w'.cell? ⟨xb, xo + j * 3, none⟩ = some (.slice x.kA x.kN x.kC) := (by have := (range_under XC.out hSw) 0 (.slice x.kA x.kN x.kC) rfl; simpa using this); go_simp; try with_reducible rfl))
        (refine tq 5 rfl hSA0 ?_ (fun w' hSw => by have z := run_str w' x.kA x.kN x.kC x.key (XF.out.key.below hSw); rw [← HS1.out] at z; go_simp; try with_reducible rfl))
        refine tq 6 rfl hSA0 ?_
        refine tq 7 rfl hSA0 ?_
        refine tq 8 rfl hSA0 ?_
        refine tq 9 rfl hSA0 ?_
        (refine tq 10 rfl hSA0 ?_ (fun w' hSw => by have z : w'.cell? ⟨yb, yo + j * 3, none⟩ = some (.slice y.kA y.kN y.kC) := (by have := (range_under YC.out hSw) 0 (.slice y.kA y.kN y.kC) rfl; simpa using this); go_simp; try with_reducible rfl))
        (refine tq 11 rfl hSA0 ?_ (fun w' hSw => by have z := run_str w' y.kA y.kN y.kC y.key (YF.out.key.below hSw); rw [← HS2.out] at z; go_simp; try with_reducible rfl))
        refine tq 12 rfl hSA0 ?_
        refine tq 13 rfl hSA0 ?_
        refine tq 14 rfl hSA0 ?_
        refine tq 15 rfl hSA0 ?_
        refine tq 16 rfl hSA0 ?_
        refine tq 17 rfl hSA0 ?_
        (refine tq 18 rfl hSA0 ?_ (fun w' hSw => by have z : w'.cell? ⟨xb, xo + j * 3 + 1, none⟩ = some (.slice x.vA x.vN x.vC) := (by have := (range_under XC.out hSw) 1 (.slice x.vA x.vN x.vC) rfl; simpa using this); go_simp; try with_reducible rfl))
        (refine tq 19 rfl hSA0 ?_ (fun w' hSw => by have z := run_str w' x.vA x.vN x.vC x.value (XF.out.value.below hSw); rw [← HV1.out] at z; go_simp; try with_reducible rfl))
        refine tq 20 rfl hSA0 ?_
        refine tq 21 rfl hSA0 ?_
        refine tq 22 rfl hSA0 ?_
        refine tq 23 rfl hSA0 ?_
        (refine tq 24 rfl hSA0 ?_ (fun w' hSw => by have z : w'.cell? ⟨yb, yo + j * 3 + 1, none⟩ = some (.slice y.vA y.vN y.vC) := (by have := (range_under YC.out hSw) 1 (.slice y.vA y.vN y.vC) rfl; simpa using this); go_simp; try with_reducible rfl))
        (refine tq 25 rfl hSA0 ?_ (fun w' hSw => by have z := run_str w' y.vA y.vN y.vC y.value (YF.out.value.below hSw); rw [← HV2.out] at z; go_simp; try with_reducible rfl))
        refine tq 26 rfl hSA0 ?_
        refine tq 27 rfl hSA0 ?_
        refine tq 28 rfl hSA0 ?_
        refine tq 29 rfl hSA0 ?_
        refine tq 30 rfl hSA0 ?_
        refine tq 31 rfl hSA0 ?_
        refine tq 32 rfl hSA0 ?_
        (refine tq 33 rfl hSA0 ?_ (fun w' hSw => by have z : w'.cell? ⟨xb, xo + j * 3 + 2, none⟩ = some (.bool x.gone) := (by have := (range_under XC.out hSw) 2 (.bool x.gone) rfl; simpa using this); rw [HG1.out] at z; go_simp; try with_reducible rfl))
        refine tq 34 rfl hSA0 ?_
        refine tq 35 rfl hSA0 ?_
        refine tq 36 rfl hSA0 ?_
        refine tq 37 rfl hSA0 ?_
        (refine tq 38 rfl hSA0 ?_ (fun w' hSw => by have z : w'.cell? ⟨yb, yo + j * 3 + 2, none⟩ = some (.bool y.gone) := (by have := (range_under YC.out hSw) 2 (.bool y.gone) rfl; simpa using this); rw [HG2.out] at z; go_simp; try with_reducible rfl))
        refine tq 39 rfl hSA0 ?_
        refine tq 40 rfl hSA0 ?_
        refine wpAnyH_done (by kernel_rfl) ?_ _
        go_wp2_with fail
        exact ⟨⟨j + 1, by have := HLT.out; omega, by go_num, HE.out, Below.then_ BW.out hSA0⟩, by have := HLT.out; simp [intOf]; omega⟩
       | false =>
        have HE := hide (show sameP a b = false from decide_eq_false fun h => by have h9 := congrArg PairD.gone (HS.out.1 h).1; simp only [PairV.d] at h9; rw [hg, hg2] at h9; cases h9)
        have HG1 := hide hg
        have HG2 := hide hg2
        clear hg hg2
        go_wp2_with fail
        refine wp_region_held_drew (S := fun w' => Below wr.heap.size wr w') (by kernel_rfl) ((Below.refl _ wr).drew) (fun hSB0 => ?_)
        obtain ⟨wrd, hwB⟩ : ∃ x, x = wr.drew := ⟨_, rfl⟩
        rw [← hwB] at hSB0 ⊢
        clear hwB
        refine tq 0 rfl hSB0 ?_
        refine tq 1 rfl hSB0 ?_
        refine tq 2 rfl hSB0 ?_
        refine tq 3 rfl hSB0 ?_
        (refine tq 4 rfl hSB0 ?_ (fun w' hSw => by have z : w'.cell? ⟨xb, xo + j * 3, none⟩ = some (.slice x.kA x.kN x.kC) := (by have := (range_under XC.out hSw) 0 (.slice x.kA x.kN x.kC) rfl; simpa using this); go_simp; try with_reducible rfl))
        (refine tq 5 rfl hSB0 ?_ (fun w' hSw => by have z := run_str w' x.kA x.kN x.kC x.key (XF.out.key.below hSw); rw [← HS1.out] at z; go_simp; try with_reducible rfl))
        refine tq 6 rfl hSB0 ?_
        refine tq 7 rfl hSB0 ?_
        refine tq 8 rfl hSB0 ?_
        refine tq 9 rfl hSB0 ?_
        (refine tq 10 rfl hSB0 ?_ (fun w' hSw => by have z : w'.cell? ⟨yb, yo + j * 3, none⟩ = some (.slice y.kA y.kN y.kC) := (by have := (range_under YC.out hSw) 0 (.slice y.kA y.kN y.kC) rfl; simpa using this); go_simp; try with_reducible rfl))
        (refine tq 11 rfl hSB0 ?_ (fun w' hSw => by have z := run_str w' y.kA y.kN y.kC y.key (YF.out.key.below hSw); rw [← HS2.out] at z; go_simp; try with_reducible rfl))
        refine tq 12 rfl hSB0 ?_
        refine tq 13 rfl hSB0 ?_
        refine tq 14 rfl hSB0 ?_
        refine tq 15 rfl hSB0 ?_
        refine tq 16 rfl hSB0 ?_
        refine tq 17 rfl hSB0 ?_
        (refine tq 18 rfl hSB0 ?_ (fun w' hSw => by have z : w'.cell? ⟨xb, xo + j * 3 + 1, none⟩ = some (.slice x.vA x.vN x.vC) := (by have := (range_under XC.out hSw) 1 (.slice x.vA x.vN x.vC) rfl; simpa using this); go_simp; try with_reducible rfl))
        (refine tq 19 rfl hSB0 ?_ (fun w' hSw => by have z := run_str w' x.vA x.vN x.vC x.value (XF.out.value.below hSw); rw [← HV1.out] at z; go_simp; try with_reducible rfl))
        refine tq 20 rfl hSB0 ?_
        refine tq 21 rfl hSB0 ?_
        refine tq 22 rfl hSB0 ?_
        refine tq 23 rfl hSB0 ?_
        (refine tq 24 rfl hSB0 ?_ (fun w' hSw => by have z : w'.cell? ⟨yb, yo + j * 3 + 1, none⟩ = some (.slice y.vA y.vN y.vC) := (by have := (range_under YC.out hSw) 1 (.slice y.vA y.vN y.vC) rfl; simpa using this); go_simp; try with_reducible rfl))
        (refine tq 25 rfl hSB0 ?_ (fun w' hSw => by have z := run_str w' y.vA y.vN y.vC y.value (YF.out.value.below hSw); rw [← HV2.out] at z; go_simp; try with_reducible rfl))
        refine tq 26 rfl hSB0 ?_
        refine tq 27 rfl hSB0 ?_
        refine tq 28 rfl hSB0 ?_
        refine tq 29 rfl hSB0 ?_
        refine tq 30 rfl hSB0 ?_
        refine tq 31 rfl hSB0 ?_
        refine tq 32 rfl hSB0 ?_
        (refine tq 33 rfl hSB0 ?_ (fun w' hSw => by have z : w'.cell? ⟨xb, xo + j * 3 + 2, none⟩ = some (.bool x.gone) := (by have := (range_under XC.out hSw) 2 (.bool x.gone) rfl; simpa using this); rw [HG1.out] at z; go_simp; try with_reducible rfl))
        refine tq 34 rfl hSB0 ?_
        refine tq 35 rfl hSB0 ?_
        refine tq 36 rfl hSB0 ?_
        refine tq 37 rfl hSB0 ?_
        (refine tq 38 rfl hSB0 ?_ (fun w' hSw => by have z : w'.cell? ⟨yb, yo + j * 3 + 2, none⟩ = some (.bool y.gone) := (by have := (range_under YC.out hSw) 2 (.bool y.gone) rfl; simpa using this); rw [HG2.out] at z; go_simp; try with_reducible rfl))
        refine tq 39 rfl hSB0 ?_
        refine tq 40 rfl hSB0 ?_
        refine wpAnyH_done (by kernel_rfl) ?_ _
        go_wp2_with fail
        go_ret
        exact ⟨by rw [HE.out]; rfl, Below.then_ BW.out hSB0⟩
      | false =>
       cases hg2 : y.gone with
       | true =>
        have HE := hide (show sameP a b = false from decide_eq_false fun h => by have h9 := congrArg PairD.gone (HS.out.1 h).1; simp only [PairV.d] at h9; rw [hg, hg2] at h9; cases h9)
        have HG1 := hide hg
        have HG2 := hide hg2
        clear hg hg2
        go_wp2_with fail
        refine wp_region_held_drew (S := fun w' => Below wr.heap.size wr w') (by kernel_rfl) ((Below.refl _ wr).drew) (fun hSB0 => ?_)
        obtain ⟨wrd, hwB⟩ : ∃ x, x = wr.drew := ⟨_, rfl⟩
        rw [← hwB] at hSB0 ⊢
        clear hwB
        refine tq 0 rfl hSB0 ?_
        refine tq 1 rfl hSB0 ?_
        refine tq 2 rfl hSB0 ?_
        refine tq 3 rfl hSB0 ?_
        (refine tq 4 rfl hSB0 ?_ (fun w' hSw => by have z : w'.cell? ⟨xb, xo + j * 3, none⟩ = some (.slice x.kA x.kN x.kC) := (by have := (range_under XC.out hSw) 0 (.slice x.kA x.kN x.kC) rfl; simpa using this); go_simp; try with_reducible rfl))
        (refine tq 5 rfl hSB0 ?_ (fun w' hSw => by have z := run_str w' x.kA x.kN x.kC x.key (XF.out.key.below hSw); rw [← HS1.out] at z; go_simp; try with_reducible rfl))
        refine tq 6 rfl hSB0 ?_
        refine tq 7 rfl hSB0 ?_
        refine tq 8 rfl hSB0 ?_
        refine tq 9 rfl hSB0 ?_
        (refine tq 10 rfl hSB0 ?_ (fun w' hSw => by have z : w'.cell? ⟨yb, yo + j * 3, none⟩ = some (.slice y.kA y.kN y.kC) := (by have := (range_under YC.out hSw) 0 (.slice y.kA y.kN y.kC) rfl; simpa using this); go_simp; try with_reducible rfl))
        (refine tq 11 rfl hSB0 ?_ (fun w' hSw => by have z := run_str w' y.kA y.kN y.kC y.key (YF.out.key.below hSw); rw [← HS2.out] at z; go_simp; try with_reducible rfl))
        refine tq 12 rfl hSB0 ?_
        refine tq 13 rfl hSB0 ?_
        refine tq 14 rfl hSB0 ?_
        refine tq 15 rfl hSB0 ?_
        refine tq 16 rfl hSB0 ?_
        refine tq 17 rfl hSB0 ?_
        (refine tq 18 rfl hSB0 ?_ (fun w' hSw => by have z : w'.cell? ⟨xb, xo + j * 3 + 1, none⟩ = some (.slice x.vA x.vN x.vC) := (by have := (range_under XC.out hSw) 1 (.slice x.vA x.vN x.vC) rfl; simpa using this); go_simp; try with_reducible rfl))
        (refine tq 19 rfl hSB0 ?_ (fun w' hSw => by have z := run_str w' x.vA x.vN x.vC x.value (XF.out.value.below hSw); rw [← HV1.out] at z; go_simp; try with_reducible rfl))
        refine tq 20 rfl hSB0 ?_
        refine tq 21 rfl hSB0 ?_
        refine tq 22 rfl hSB0 ?_
        refine tq 23 rfl hSB0 ?_
        (refine tq 24 rfl hSB0 ?_ (fun w' hSw => by have z : w'.cell? ⟨yb, yo + j * 3 + 1, none⟩ = some (.slice y.vA y.vN y.vC) := (by have := (range_under YC.out hSw) 1 (.slice y.vA y.vN y.vC) rfl; simpa using this); go_simp; try with_reducible rfl))
        (refine tq 25 rfl hSB0 ?_ (fun w' hSw => by have z := run_str w' y.vA y.vN y.vC y.value (YF.out.value.below hSw); rw [← HV2.out] at z; go_simp; try with_reducible rfl))
        refine tq 26 rfl hSB0 ?_
        refine tq 27 rfl hSB0 ?_
        refine tq 28 rfl hSB0 ?_
        refine tq 29 rfl hSB0 ?_
        refine tq 30 rfl hSB0 ?_
        refine tq 31 rfl hSB0 ?_
        refine tq 32 rfl hSB0 ?_
        (refine tq 33 rfl hSB0 ?_ (fun w' hSw => by have z : w'.cell? ⟨xb, xo + j * 3 + 2, none⟩ = some (.bool x.gone) := (by have := (range_under XC.out hSw) 2 (.bool x.gone) rfl; simpa using this); rw [HG1.out] at z; go_simp; try with_reducible rfl))
        refine tq 34 rfl hSB0 ?_
        refine tq 35 rfl hSB0 ?_
        refine tq 36 rfl hSB0 ?_
        refine tq 37 rfl hSB0 ?_
        (refine tq 38 rfl hSB0 ?_ (fun w' hSw => by have z : w'.cell? ⟨yb, yo + j * 3 + 2, none⟩ = some (.bool y.gone) := (by have := (range_under YC.out hSw) 2 (.bool y.gone) rfl; simpa using this); rw [HG2.out] at z; go_simp; try with_reducible rfl))
        refine tq 39 rfl hSB0 ?_
        refine tq 40 rfl hSB0 ?_
        refine wpAnyH_done (by kernel_rfl) ?_ _
        go_wp2_with fail
        go_ret
        exact ⟨by rw [HE.out]; rfl, Below.then_ BW.out hSB0⟩
       | false =>
        have HE := hide (show a = b ↔ a.drop (j + 1) = b.drop (j + 1) from HS.out.trans ⟨fun h => h.2, fun h => ⟨by simp only [PairV.d]; rw [HK.out, HV.out, hg, hg2], h⟩⟩)
        have HG1 := hide hg
        have HG2 := hide hg2
        clear hg hg2
        go_wp2_with fail
        refine wp_region_held_drew (S := fun w' => Below wr.heap.size wr w') (by kernel_rfl) ((Below.refl _ wr).drew) (fun hSA0 => ?_)
        obtain ⟨wrd, hwA⟩ : ∃ x, x = wr.drew := ⟨_, rfl⟩
        rw [← hwA] at hSA0 ⊢
        clear hwA
        refine tq 0 rfl hSA0 ?_
        refine tq 1 rfl hSA0 ?_
        refine tq 2 rfl hSA0 ?_
        refine tq 3 rfl hSA0 ?_
        (refine tq 4 rfl hSA0 ?_ (fun w' hSw => by have z : w'.cell? ⟨xb, xo + j * 3, none⟩ = some (.slice x.kA x.kN x.kC) := (by have := (range_under XC.out hSw) 0 (.slice x.kA x.kN x.kC) rfl; simpa using this); go_simp; try with_reducible rfl))
        (refine tq 5 rfl hSA0 ?_ (fun w' hSw => by have z := run_str w' x.kA x.kN x.kC x.key (XF.out.key.below hSw); rw [← HS1.out] at z; go_simp; try with_reducible rfl))
        refine tq 6 rfl hSA0 ?_
        refine tq 7 rfl hSA0 ?_
        refine tq 8 rfl hSA0 ?_
        refine tq 9 rfl hSA0 ?_
        (refine tq 10 rfl hSA0 ?_ (fun w' hSw => by have z : w'.cell? ⟨yb, yo + j * 3, none⟩ = some (.slice y.kA y.kN y.kC) := (by have := (range_under YC.out hSw) 0 (.slice y.kA y.kN y.kC) rfl; simpa using this); go_simp; try with_reducible rfl))
        (refine tq 11 rfl hSA0 ?_ (fun w' hSw => by have z := run_str w' y.kA y.kN y.kC y.key (YF.out.key.below hSw); rw [← HS2.out] at z; go_simp; try with_reducible rfl))
        refine tq 12 rfl hSA0 ?_
        refine tq 13 rfl hSA0 ?_
        refine tq 14 rfl hSA0 ?_
        refine tq 15 rfl hSA0 ?_
        refine tq 16 rfl hSA0 ?_
        refine tq 17 rfl hSA0 ?_
        (refine tq 18 rfl hSA0 ?_ (fun w' hSw => by have z : w'.cell? ⟨xb, xo + j * 3 + 1, none⟩ = some (.slice x.vA x.vN x.vC) := (by have := (range_under XC.out hSw) 1 (.slice x.vA x.vN x.vC) rfl; simpa using this); go_simp; try with_reducible rfl))
        (refine tq 19 rfl hSA0 ?_ (fun w' hSw => by have z := run_str w' x.vA x.vN x.vC x.value (XF.out.value.below hSw); rw [← HV1.out] at z; go_simp; try with_reducible rfl))
        refine tq 20 rfl hSA0 ?_
        refine tq 21 rfl hSA0 ?_
        refine tq 22 rfl hSA0 ?_
        refine tq 23 rfl hSA0 ?_
        (refine tq 24 rfl hSA0 ?_ (fun w' hSw => by have z : w'.cell? ⟨yb, yo + j * 3 + 1, none⟩ = some (.slice y.vA y.vN y.vC) := (by have := (range_under YC.out hSw) 1 (.slice y.vA y.vN y.vC) rfl; simpa using this); go_simp; try with_reducible rfl))
        (refine tq 25 rfl hSA0 ?_ (fun w' hSw => by have z := run_str w' y.vA y.vN y.vC y.value (YF.out.value.below hSw); rw [← HV2.out] at z; go_simp; try with_reducible rfl))
        refine tq 26 rfl hSA0 ?_
        refine tq 27 rfl hSA0 ?_
        refine tq 28 rfl hSA0 ?_
        refine tq 29 rfl hSA0 ?_
        refine tq 30 rfl hSA0 ?_
        refine tq 31 rfl hSA0 ?_
        refine tq 32 rfl hSA0 ?_
        (refine tq 33 rfl hSA0 ?_ (fun w' hSw => by have z : w'.cell? ⟨xb, xo + j * 3 + 2, none⟩ = some (.bool x.gone) := (by have := (range_under XC.out hSw) 2 (.bool x.gone) rfl; simpa using this); rw [HG1.out] at z; go_simp; try with_reducible rfl))
        refine tq 34 rfl hSA0 ?_
        refine tq 35 rfl hSA0 ?_
        refine tq 36 rfl hSA0 ?_
        refine tq 37 rfl hSA0 ?_
        (refine tq 38 rfl hSA0 ?_ (fun w' hSw => by have z : w'.cell? ⟨yb, yo + j * 3 + 2, none⟩ = some (.bool y.gone) := (by have := (range_under YC.out hSw) 2 (.bool y.gone) rfl; simpa using this); rw [HG2.out] at z; go_simp; try with_reducible rfl))
        refine tq 39 rfl hSA0 ?_
        refine tq 40 rfl hSA0 ?_
        refine wpAnyH_done (by kernel_rfl) ?_ _
        go_wp2_with fail
        exact ⟨⟨j + 1, by have := HLT.out; omega, by go_num, HE.out, Below.then_ BW.out hSA0⟩, by have := HLT.out; simp [intOf]; omega⟩
     ·obtain ⟨V2, hV2⟩ : ∃ S, S = ba y.value := ⟨_, rfl⟩
      have HV2 := hide hV2
      have hne : V1.toList ≠ V2.toList := by rw [hV1, hV2]; exact ba_ne XF.out.value.2.1 YF.out.value.2.1 hv
      have hbe : (V1.toList == V2.toList) = false := by simpa using hne
      have HE := hide (show sameP a b = false from decide_eq_false fun h => hv (congrArg PairD.value (HS.out.1 h).1))
      clear hv hV1 hV2
      go_wp2_with fail
      refine wp_region_held_drew (S := fun w' => Below wr.heap.size wr w') (by kernel_rfl) ((Below.refl _ wr).drew) (fun hSC0 => ?_)
      obtain ⟨wrd, hwC⟩ : ∃ x, x = wr.drew := ⟨_, rfl⟩
      rw [← hwC] at hSC0 ⊢
      clear hwC
      refine tq 0 rfl hSC0 ?_
      refine tq 1 rfl hSC0 ?_
      refine tq 2 rfl hSC0 ?_
      refine tq 3 rfl hSC0 ?_
      (refine tq 4 rfl hSC0 ?_ (fun w' hSw => by have z : w'.cell? ⟨xb, xo + j * 3, none⟩ = some (.slice x.kA x.kN x.kC) := (by have := (range_under XC.out hSw) 0 (.slice x.kA x.kN x.kC) rfl; simpa using this); go_simp; try with_reducible rfl))
      (refine tq 5 rfl hSC0 ?_ (fun w' hSw => by have z := run_str w' x.kA x.kN x.kC x.key (XF.out.key.below hSw); rw [← HS1.out] at z; go_simp; try with_reducible rfl))
      refine tq 6 rfl hSC0 ?_
      refine tq 7 rfl hSC0 ?_
      refine tq 8 rfl hSC0 ?_
      refine tq 9 rfl hSC0 ?_
      (refine tq 10 rfl hSC0 ?_ (fun w' hSw => by have z : w'.cell? ⟨yb, yo + j * 3, none⟩ = some (.slice y.kA y.kN y.kC) := (by have := (range_under YC.out hSw) 0 (.slice y.kA y.kN y.kC) rfl; simpa using this); go_simp; try with_reducible rfl))
      (refine tq 11 rfl hSC0 ?_ (fun w' hSw => by have z := run_str w' y.kA y.kN y.kC y.key (YF.out.key.below hSw); rw [← HS2.out] at z; go_simp; try with_reducible rfl))
      refine tq 12 rfl hSC0 ?_
      refine tq 13 rfl hSC0 ?_
      refine tq 14 rfl hSC0 ?_
      refine tq 15 rfl hSC0 ?_
      refine tq 16 rfl hSC0 ?_
      refine tq 17 rfl hSC0 ?_
      (refine tq 18 rfl hSC0 ?_ (fun w' hSw => by have z : w'.cell? ⟨xb, xo + j * 3 + 1, none⟩ = some (.slice x.vA x.vN x.vC) := (by have := (range_under XC.out hSw) 1 (.slice x.vA x.vN x.vC) rfl; simpa using this); go_simp; try with_reducible rfl))
      (refine tq 19 rfl hSC0 ?_ (fun w' hSw => by have z := run_str w' x.vA x.vN x.vC x.value (XF.out.value.below hSw); rw [← HV1.out] at z; go_simp; try with_reducible rfl))
      refine tq 20 rfl hSC0 ?_
      refine tq 21 rfl hSC0 ?_
      refine tq 22 rfl hSC0 ?_
      refine tq 23 rfl hSC0 ?_
      (refine tq 24 rfl hSC0 ?_ (fun w' hSw => by have z : w'.cell? ⟨yb, yo + j * 3 + 1, none⟩ = some (.slice y.vA y.vN y.vC) := (by have := (range_under YC.out hSw) 1 (.slice y.vA y.vN y.vC) rfl; simpa using this); go_simp; try with_reducible rfl))
      (refine tq 25 rfl hSC0 ?_ (fun w' hSw => by have z := run_str w' y.vA y.vN y.vC y.value (YF.out.value.below hSw); rw [← HV2.out] at z; go_simp; try with_reducible rfl))
      refine tq 26 rfl hSC0 ?_
      refine tq 27 rfl hSC0 ?_
      refine tq 28 rfl hSC0 ?_
      refine tm 29 rfl hSC0 ?_
      refine tm 30 rfl hSC0 ?_
      refine tm 31 rfl hSC0 ?_
      refine tm 32 rfl hSC0 ?_
      refine tm 33 rfl hSC0 ?_
      refine tm 34 rfl hSC0 ?_
      refine tm 35 rfl hSC0 ?_
      refine tm 36 rfl hSC0 ?_
      refine tm 37 rfl hSC0 ?_
      refine tm 38 rfl hSC0 ?_
      refine tm 39 rfl hSC0 ?_
      refine tq 40 rfl hSC0 ?_
      refine wpAnyH_done (by kernel_rfl) ?_ _
      go_wp2_with fail
      go_ret
      exact ⟨by rw [HE.out]; rfl, Below.then_ BW.out hSC0⟩
    ·obtain ⟨S2, hS2⟩ : ∃ S, S = ba y.key := ⟨_, rfl⟩
     have HS2 := hide hS2
     have hne : S1.toList ≠ S2.toList := by rw [hS1, hS2]; exact ba_ne XF.out.key.2.1 YF.out.key.2.1 hk
     have hbe : (S1.toList == S2.toList) = false := by simpa using hne
     have HE := hide (show sameP a b = false from decide_eq_false fun h => hk (congrArg PairD.key (HS.out.1 h).1))
     clear hk hS1 hS2
     go_wp2_with fail
     refine wp_region_held_drew (S := fun w' => Below wr.heap.size wr w') (by kernel_rfl) ((Below.refl _ wr).drew) (fun hSD0 => ?_)
     obtain ⟨wrd, hwD⟩ : ∃ x, x = wr.drew := ⟨_, rfl⟩
     rw [← hwD] at hSD0 ⊢
     clear hwD
     refine tq 0 rfl hSD0 ?_
     refine tq 1 rfl hSD0 ?_
     refine tq 2 rfl hSD0 ?_
     refine tq 3 rfl hSD0 ?_
     (refine tq 4 rfl hSD0 ?_ (fun w' hSw => by have z : w'.cell? ⟨xb, xo + j * 3, none⟩ = some (.slice x.kA x.kN x.kC) := (by have := (range_under XC.out hSw) 0 (.slice x.kA x.kN x.kC) rfl; simpa using this); go_simp; try with_reducible rfl))
     (refine tq 5 rfl hSD0 ?_ (fun w' hSw => by have z := run_str w' x.kA x.kN x.kC x.key (XF.out.key.below hSw); rw [← HS1.out] at z; go_simp; try with_reducible rfl))
     refine tq 6 rfl hSD0 ?_
     refine tq 7 rfl hSD0 ?_
     refine tq 8 rfl hSD0 ?_
     refine tq 9 rfl hSD0 ?_
     (refine tq 10 rfl hSD0 ?_ (fun w' hSw => by have z : w'.cell? ⟨yb, yo + j * 3, none⟩ = some (.slice y.kA y.kN y.kC) := (by have := (range_under YC.out hSw) 0 (.slice y.kA y.kN y.kC) rfl; simpa using this); go_simp; try with_reducible rfl))
     (refine tq 11 rfl hSD0 ?_ (fun w' hSw => by have z := run_str w' y.kA y.kN y.kC y.key (YF.out.key.below hSw); rw [← HS2.out] at z; go_simp; try with_reducible rfl))
     refine tq 12 rfl hSD0 ?_
     refine tq 13 rfl hSD0 ?_
     refine tm 14 rfl hSD0 ?_
     refine tm 15 rfl hSD0 ?_
     refine tm 16 rfl hSD0 ?_
     refine tm 17 rfl hSD0 ?_
     refine tm 18 rfl hSD0 ?_
     refine tm 19 rfl hSD0 ?_
     refine tm 20 rfl hSD0 ?_
     refine tm 21 rfl hSD0 ?_
     refine tm 22 rfl hSD0 ?_
     refine tm 23 rfl hSD0 ?_
     refine tm 24 rfl hSD0 ?_
     refine tm 25 rfl hSD0 ?_
     refine tm 26 rfl hSD0 ?_
     refine tq 27 rfl hSD0 ?_
     refine tq 28 rfl hSD0 ?_
     refine tm 29 rfl hSD0 ?_
     refine tm 30 rfl hSD0 ?_
     refine tm 31 rfl hSD0 ?_
     refine tm 32 rfl hSD0 ?_
     refine tm 33 rfl hSD0 ?_
     refine tm 34 rfl hSD0 ?_
     refine tm 35 rfl hSD0 ?_
     refine tm 36 rfl hSD0 ?_
     refine tm 37 rfl hSD0 ?_
     refine tm 38 rfl hSD0 ?_
     refine tm 39 rfl hSD0 ?_
     refine tq 40 rfl hSD0 ?_
     refine wpAnyH_done (by kernel_rfl) ?_ _
     go_wp2_with fail
     go_ret
     exact ⟨by rw [HE.out]; rfl, Below.then_ BW.out hSD0⟩
   ·have HJ := hide (show j = n by omega)
    have HS := hide hs
    have j1 : ¬ (j : Int) < (n : Int) := by omega
    clear hs hb hlt
    go_wp2_with fail
    go_ret
    refine ⟨?_, BW.out⟩
    have e : a = b := HS.out.2 (by rw [List.drop_of_length_le (by rw [LA.out, HJ.out]; exact Nat.le_refl _), List.drop_of_length_le (by rw [LB.out, HJ.out]; exact Nat.le_refl _)])
    rw [sameP, decide_eq_true e]
    rfl
 ·have hbe : ((n : Int) == (m : Int)) = false := by simp; omega
  have hne : ¬ (n : Int) = (m : Int) := by omega
  have HE := hide (show sameP a b = false from decide_eq_false fun h => hnm (by rw [← LA.out, ← LB.out, h]))
  go_enter Tryz.func18, Tryz.ntmps18
  go_wp2_with fail
  go_ret
  exact ⟨by rw [HE.out]; rfl, Below.refl _ _⟩
def greatP (l : List PairD) : Bool := decide (40 < l.length) || l.any fun p => decide (250 < p.key.length) || decide (600 < p.value.length)
theorem great_small {l : List PairD} (h : greatP l = false) : l.length ≤ 40 ∧ psize l ≤ 40000 := by
 simp only [greatP, Bool.or_eq_false_iff, decide_eq_false_iff_not, List.any_eq_false] at h
 have key : ∀ m : List PairD, (∀ p ∈ m, ¬ ((decide (250 < p.key.length) || decide (600 < p.value.length)) = true)) → psize m ≤ 850 * m.length := by
  intro m
  induction m with
  | nil => simp [psize]
  | cons p m ih =>
   intro hm
   have h1 := ih fun q hq => hm q (by simp [hq])
   have h2 := hm p (by simp)
   simp at h2
   rw [psize_cons, List.length_cons]
   omega
 have h2 := key l h.2
 omega
attribute [local go_sem ↓] loadPr_fold
theorem great_any (w : World) (A : Option Addr) (n c : Nat) (xs : List PairV) (hX : PairsIn w A n xs) :
  Calls Tryz.prog 9 #[.slice A n c] w fun e w' => e = .returned (.bool (greatP (xs.map PairV.d))) ∧ Below w.heap.size w w' := by
 obtain ⟨L, hL⟩ : ∃ L, L = xs.map PairV.d := ⟨_, rfl⟩
 have HL := hide hL
 have HX := hide hX
 have LN := hide (show L.length = n by rw [hL, List.length_map, hX.1])
 rw [← hL]
 clear hL hX
 by_cases hn : 40 < n
 ·have HE := hide (show greatP L = true by rw [greatP, LN.out, decide_eq_true hn]; rfl)
  have n1 : (40 : Int) < (n : Int) := by omega
  go_enter Tryz.func9, Tryz.ntmps9
  go_wp2_with fail
  go_ret
  exact ⟨by rw [HE.out]; rfl, Below.refl _ _⟩
 ·have HE := hide (show greatP L = (L.drop 0).any fun p => decide (250 < p.key.length) || decide (600 < p.value.length) by rw [greatP, LN.out, decide_eq_false hn]; rfl)
  have n1 : (n : Int) ≤ 40 := by omega
  have HN := hide hn
  clear hn
  go_enter Tryz.func9, Tryz.ntmps9
  go_wp2_with fail
  go_loopw [10] (fun i wr => ∃ j : Nat, j ≤ n ∧ i = .int .i64 (j : Int) ∧ greatP L = ((L.drop j).any fun p => decide (250 < p.key.length) || decide (600 < p.value.length)) ∧ Below w.heap.size w wr) (fun i _ => n - (intOf i).toNat)
  case atStart => exact ⟨0, by omega, rfl, HE.out, Below.refl _ _⟩
  case round =>
   clear HE
   obtain ⟨j, hj, rfl, hs, hb⟩ := hrel
   have BW := hide hb
   have XR := hide (HX.out.below' hb)
   by_cases hlt : j < n
   ·obtain ⟨xb, xo, hxa, hxr⟩ := XR.out.2.2 (by omega)
    subst hxa
    obtain ⟨x, hx⟩ : ∃ x, xs[j]? = some x := ⟨_, List.getElem?_eq_getElem (by rw [XR.out.1]; exact hlt)⟩
    have XF := hide (XR.out.2.1 x (List.mem_of_getElem? hx))
    have hld := loadPr_run wr xb (xo + j * 3) x (hxr j x hx)
    have HLT := hide hlt
    have hLx : L[j]? = some x.d := by rw [HL.out]; exact pmap_get hx
    have hdr : L.drop j = x.d :: L.drop (j + 1) := by
     obtain ⟨h8, h9⟩ := List.getElem?_eq_some_iff.1 hLx
     rw [List.drop_eq_getElem_cons h8, h9]
    have HS := hide (show greatP L = ((decide (250 < x.kN) || decide (600 < x.vN)) || (L.drop (j + 1)).any fun p => decide (250 < p.key.length) || decide (600 < p.value.length)) by
     rw [hs, hdr, List.any_cons]
     simp only [PairV.d, XF.out.key.1, XF.out.value.1])
    have j0 : (0 : Int) ≤ (j : Int) := by omega
    have j1 : (j : Int) < (n : Int) := by omega
    clear hs hb hx hxr hlt hj hLx hdr
    by_cases hk : 250 < x.kN
    ·have HE := hide (show greatP L = true by rw [HS.out, decide_eq_true hk]; simp)
     have k1 : (250 : Int) < (x.kN : Int) := by omega
     have tokA : True := trivial
     have tokB : True := trivial
     go_wp2_with (first
      | (have _t := tokA; clear _t tokA; refine wpList_alloc_agg rfl 59 rfl zeroPr zeroPr_info ?_; simp only [pU])
      | (have _t := tokB; clear _t tokB; refine pr_store rfl _ _ rfl wr rfl (by rfl) x (by rfl) ?_; intro w5 b5 s5 k5; have B5 := hide b5; have y0 := k5.c0; have y1 := k5.c1; clear b5 s5 k5 hld; simp only [Act.put]))
     go_ret
     exact ⟨by rw [HE.out]; rfl, Below.then_ BW.out B5.out⟩
    ·have k1 : ¬ (250 : Int) < (x.kN : Int) := by omega
     by_cases hv : 600 < x.vN
     ·have HE := hide (show greatP L = true by rw [HS.out, decide_eq_true hv]; simp)
      have v1 : (600 : Int) < (x.vN : Int) := by omega
      have tokA : True := trivial
      have tokB : True := trivial
      go_wp2_with (first
       | (have _t := tokA; clear _t tokA; refine wpList_alloc_agg rfl 59 rfl zeroPr zeroPr_info ?_; simp only [pU])
       | (have _t := tokB; clear _t tokB; refine pr_store rfl _ _ rfl wr rfl (by rfl) x (by rfl) ?_; intro w5 b5 s5 k5; have B5 := hide b5; have y0 := k5.c0; have y1 := k5.c1; clear b5 s5 k5 hld; simp only [Act.put]))
      go_ret
      exact ⟨by rw [HE.out]; rfl, Below.then_ BW.out B5.out⟩
     ·have HE := hide (show greatP L = ((L.drop (j + 1)).any fun p => decide (250 < p.key.length) || decide (600 < p.value.length)) by rw [HS.out, decide_eq_false hk, decide_eq_false hv]; rfl)
      have v1 : ¬ (600 : Int) < (x.vN : Int) := by omega
      have tokA : True := trivial
      have tokB : True := trivial
      go_wp2_with (first
       | (have _t := tokA; clear _t tokA; refine wpList_alloc_agg rfl 59 rfl zeroPr zeroPr_info ?_; simp only [pU])
       | (have _t := tokB; clear _t tokB; refine pr_store rfl _ _ rfl wr rfl (by rfl) x (by rfl) ?_; intro w5 b5 s5 k5; have B5 := hide b5; have y0 := k5.c0; have y1 := k5.c1; clear b5 s5 k5 hld; simp only [Act.put]))
      exact ⟨⟨j + 1, by have := HLT.out; omega, by go_num, HE.out, Below.then_ BW.out B5.out⟩, by have := HLT.out; simp [intOf]; omega⟩
   ·have HJ := hide (show j = n by omega)
    have HS := hide hs
    have j1 : ¬ (j : Int) < (n : Int) := by omega
    clear hs hb hlt
    go_wp2_with fail
    go_ret
    refine ⟨?_, BW.out⟩
    rw [HS.out, List.drop_of_length_le (by rw [LN.out, HJ.out]; exact Nat.le_refl _)]
    rfl
end
end Go.Proofs.YtjnpkcabkccaoaaGreat

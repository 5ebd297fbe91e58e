/- Lemmas and walks for TableRuns, packed. -/
import Derived.Test.YtjnpkcabkccaoaaGreatQ34
set_option maxRecDepth 100000
set_option maxHeartbeats 16000000
namespace Go.Proofs.YtjnpkcabkccaoaaGreat
open Go.RowKit
section
theorem ok_cases (p : PairV) (w : World) (h : p.Fine w) :
  (p.kN = 0 ∧ p.d.okB = false) ∨ (0 < p.kN ∧ 200 < p.kN ∧ p.d.okB = false) ∨ (0 < p.kN ∧ p.kN ≤ 200 ∧ 20000 < p.vN ∧ p.d.okB = false) ∨ (0 < p.kN ∧ p.kN ≤ 200 ∧ p.vN ≤ 20000 ∧ p.gone = true ∧ 0 < p.vN ∧ p.d.okB = false) ∨
  (0 < p.kN ∧ p.kN ≤ 200 ∧ p.vN ≤ 20000 ∧ p.gone = true ∧ p.vN = 0 ∧ p.d.okB = true) ∨ (0 < p.kN ∧ p.kN ≤ 200 ∧ p.vN ≤ 20000 ∧ p.gone = false ∧ p.d.okB = true) := by
 have hk := h.key.1
 have hv := h.value.1
 have hE : p.d.okB = (decide (1 ≤ p.kN) && (decide (p.kN ≤ 200) && (decide (p.vN ≤ 20000) && (!p.gone || decide (p.vN = 0))))) := by
  rw [PairD.okB]; simp only [PairV.d, hk, hv]
 rw [hE]
 cases p.gone <;> simp <;> omega
attribute [local go_sem ↓] loadPr_fold
theorem refRight_any (w : World) (A : Option Addr) (n c : Nat) (xs : List PairV) (hX : PairsIn w A n xs) (hn : n ≤ 1000000000000) (hm : ∀ p ∈ xs, SmallP p) :
  Calls Tryz.prog 55 #[.slice A n c] w fun e w' => e = .returned (.bool (rightB (xs.map PairV.d))) ∧ Below w.heap.size w w' := by
 have HX := hide hX
 have HM := hide hm
 have n9 : (n : Int) ≤ 1000000000000 := by omega
 obtain ⟨L, hL⟩ : ∃ L, L = xs.map PairV.d := ⟨_, rfl⟩
 have HL := hide hL
 rw [← hL]
 clear hX hn hm hL
 go_enter Tryz.func55, Tryz.ntmps55
 go_wp2_with fail
 go_loopw [7] (fun i wr => ∃ j : Nat, j ≤ n ∧ i = .int .i64 (j : Int) ∧ rightB L = rightFrom (prevK L j) (L.drop j) ∧ Below w.heap.size w wr) (fun i _ => n - (intOf i).toNat)
 case atStart => exact ⟨0, by omega, rfl, rfl, Below.refl _ _⟩
 case round =>
  obtain ⟨j, hj, rfl, hr, hb⟩ := hrel
  have HB := hide hb
  have XR := hide (HX.out.below' hb)
  by_cases hlt : j < n
  ·obtain ⟨pb, off, hpa, hrow⟩ := XR.out.2.2 (by omega)
   subst hpa
   obtain ⟨x, hx⟩ : ∃ x, xs[j]? = some x := ⟨_, List.getElem?_eq_getElem (by rw [XR.out.1]; exact hlt)⟩
   have XF := hide (XR.out.2.1 x (List.mem_of_getElem? hx))
   have XM := hide (HM.out x (List.mem_of_getElem? hx))
   have HR := hide (right_step L j x.d (by rw [HL.out]; exact pmap_get hx) hr)
   have hld := loadPr_run wr pb (off + j * 3) x (hrow j x hx)
   have HLT := hide hlt
   have HROW := hide hrow
   have HXX := hide hx
   have i0 : (0 : Int) ≤ (j : Int) := by omega
   have i1 : (j : Int) < (n : Int) := by omega
   have k9 : (x.kN : Int) ≤ 1000000000000 := by have := XM.out.1; omega
   have v9 : (x.vN : Int) ≤ 1000000000000 := by have := XM.out.2; omega
   clear hr hb hx hlt hrow hj
   have hoc := ok_cases x wr XF.out
   have KO := hide (show rightB L = false ∨ x.d.okB = true by
    cases hok : x.d.okB with
    | true => exact .inr rfl
    | false => left; rw [HR.out, hok]; rfl)
   rcases hoc with ⟨h1, h9⟩ | ⟨h1, h2, h9⟩ | ⟨h1, h2, h3, h9⟩ | ⟨h1, h2, h3, h4, h5, h9⟩ | ⟨h1, h2, h3, h4, h5, h9⟩ | ⟨h1, h2, h3, h4, h9⟩
   ·have HE := hide (show rightB L = false from KO.out.resolve_right (by rw [h9]; decide))
    have H1 := hide h1
    clear h9 h1
    have tokA : True := trivial
    have tokB : True := trivial
    go_wp2_with (first
     | (have _t := tokA; clear _t tokA; refine wpList_alloc_agg rfl 59 rfl zeroPr zeroPr_info ?_; simp only [pU])
     | (have _t := tokB; clear _t tokB; refine pr_store rfl _ _ rfl wr rfl (by rfl) x (by rfl) ?_; intro w5 b5 s5 k5; have B5 := hide b5; have K5 := hide k5; have y0 := k5.c0; have y1 := k5.c1; have y2 := k5.c2; rw [H1.out] at y0; clear b5 s5 k5 hld; simp only [Act.put]))
    go_ret
    exact ⟨by rw [HE.out]; rfl, Below.then_ HB.out B5.out⟩
   ·have HE := hide (show rightB L = false from KO.out.resolve_right (by rw [h9]; decide))
    have q1 : ((x.kN : Int) == 0) = false := by simp; omega
    have q2 : (200 : Int) < (x.kN : Int) := by omega
    clear h9 h1
    try clear h2
    try clear h3
    have tokA : True := trivial
    have tokB : True := trivial
    go_wp2_with (first
     | (have _t := tokA; clear _t tokA; refine wpList_alloc_agg rfl 59 rfl zeroPr zeroPr_info ?_; simp only [pU])
     | (have _t := tokB; clear _t tokB; refine pr_store rfl _ _ rfl wr rfl (by rfl) x (by rfl) ?_; intro w5 b5 s5 k5; have B5 := hide b5; have K5 := hide k5; have y0 := k5.c0; have y1 := k5.c1; have y2 := k5.c2; clear b5 s5 k5 hld; simp only [Act.put]))
    go_ret
    exact ⟨by rw [HE.out]; rfl, Below.then_ HB.out B5.out⟩
   ·have HE := hide (show rightB L = false from KO.out.resolve_right (by rw [h9]; decide))
    have q1 : ((x.kN : Int) == 0) = false := by simp; omega
    have q2 : ¬ (200 : Int) < (x.kN : Int) := by omega
    have q3 : (20000 : Int) < (x.vN : Int) := by omega
    clear h9 h1
    try clear h2
    try clear h3
    have tokA : True := trivial
    have tokB : True := trivial
    go_wp2_with (first
     | (have _t := tokA; clear _t tokA; refine wpList_alloc_agg rfl 59 rfl zeroPr zeroPr_info ?_; simp only [pU])
     | (have _t := tokB; clear _t tokB; refine pr_store rfl _ _ rfl wr rfl (by rfl) x (by rfl) ?_; intro w5 b5 s5 k5; have B5 := hide b5; have K5 := hide k5; have y0 := k5.c0; have y1 := k5.c1; have y2 := k5.c2; clear b5 s5 k5 hld; simp only [Act.put]))
    go_ret
    exact ⟨by rw [HE.out]; rfl, Below.then_ HB.out B5.out⟩
   ·have HE := hide (show rightB L = false from KO.out.resolve_right (by rw [h9]; decide))
    have q1 : ((x.kN : Int) == 0) = false := by simp; omega
    have q2 : ¬ (200 : Int) < (x.kN : Int) := by omega
    have q3 : ¬ (20000 : Int) < (x.vN : Int) := by omega
    have HG := hide h4
    clear h9 h4
    have q4 := h5
    clear h1 h2 h3 h5
    have tokA : True := trivial
    have tokB : True := trivial
    go_wp2_with (first
     | (have _t := tokA; clear _t tokA; refine wpList_alloc_agg rfl 59 rfl zeroPr zeroPr_info ?_; simp only [pU])
     | (have _t := tokB; clear _t tokB; refine pr_store rfl _ _ rfl wr rfl (by rfl) x (by rfl) ?_; intro w5 b5 s5 k5; have B5 := hide b5; have K5 := hide k5; have y0 := k5.c0; have y1 := k5.c1; have y2 := k5.c2; rw [HG.out] at y2; clear b5 s5 k5 hld; simp only [Act.put]))
    go_ret
    exact ⟨by rw [HE.out]; rfl, Below.then_ HB.out B5.out⟩
   ·have HOK := hide h9
    have q1 : ((x.kN : Int) == 0) = false := by simp; omega
    have q2 : ¬ (200 : Int) < (x.kN : Int) := by omega
    have q3 : ¬ (20000 : Int) < (x.vN : Int) := by omega
    have HG := hide h4
    have H5 := hide h5
    clear h9 h4 h1 h2 h3 h5
    have tokA : True := trivial
    have tokB : True := trivial
    go_wp2_with (first
     | (have _t := tokA; clear _t tokA; refine wpList_alloc_agg rfl 59 rfl zeroPr zeroPr_info ?_; simp only [pU])
     | (have _t := tokB; clear _t tokB; refine pr_store rfl _ _ rfl wr rfl (by rfl) x (by rfl) ?_; intro w5 b5 s5 k5; have B5 := hide b5; have K5 := hide k5; have y0 := k5.c0; have y1 := k5.c1; have y2 := k5.c2; rw [HG.out] at y2; rw [H5.out] at y1; clear b5 s5 k5 hld; simp only [Act.put]))
    have B05 := hide (Below.then_ HB.out B5.out)
    have KX5 := hide (show Bys w5 x.kA x.kN x.key from XF.out.key.below B5.out)
    obtain ⟨SX, hSX⟩ : ∃ S, S = ba x.key := ⟨_, rfl⟩
    have HSX := hide hSX
    clear hSX
    by_cases h0 : j = 0
    ·subst h0
     have HE := hide (show rightB L = rightFrom (prevK L (0 + 1)) (L.drop (0 + 1)) by rw [HR.out, HOK.out]; rfl)
     clear y0 y1 y2
     refine wp_region_held_drew (S := fun w' => Below w5.heap.size w5 w') (by kernel_rfl) ((Below.refl _ w5).drew) (fun hSB0 => ?_)
     obtain ⟨w5d, hwB⟩ : ∃ x, x = w5.drew := ⟨_, rfl⟩
     rw [← hwB] at hSB0 ⊢
     clear hwB
     refine tq 0 rfl hSB0 ?_
     refine tq 1 rfl hSB0 ?_
     refine tq 2 rfl hSB0 ?_
     refine tm 3 rfl hSB0 ?_
     refine tm 4 rfl hSB0 ?_
     refine tm 5 rfl hSB0 ?_
     refine tm 6 rfl hSB0 ?_
     refine tm 7 rfl hSB0 ?_
     refine tm 8 rfl hSB0 ?_
     refine tm 9 rfl hSB0 ?_
     refine tm 10 rfl hSB0 ?_
     refine tm 11 rfl hSB0 ?_
     refine tm 12 rfl hSB0 ?_
     refine tm 13 rfl hSB0 ?_
     refine tq 14 rfl hSB0 ?_
     refine wpAnyH_done (by kernel_rfl) ?_ _
     go_wp2_with fail
     exact ⟨⟨0 + 1, by have := HLT.out; omega, by go_num, HE.out, Below.then_ B05.out hSB0⟩, by have := HLT.out; simp [intOf]; omega⟩
    ·obtain ⟨k, hk⟩ : ∃ k, k + 1 = j := ⟨j - 1, by omega⟩
     have hkl : k < xs.length := by rw [XR.out.1]; have := HLT.out; omega
     obtain ⟨y, hy⟩ : ∃ y, xs[k]? = some y := ⟨_, List.getElem?_eq_getElem hkl⟩
     have YF5 := hide ((XR.out.2.1 y (List.mem_of_getElem? hy)).below B5.out)
     have YR := hide (range_under (HROW.out k y hy) B5.out)
     have hwr : IntKind.i64.wrap (k : Int) = (k : Int) := by rw [IntKind.wrap_i64]; omega
     have hwr2 : (j : Int) - 1 = (k : Int) := by omega
     have j1 : (j : Int) > 0 := by omega
     have j3 : 0 < j := by omega
     have k0 : (0 : Int) ≤ (k : Int) := by omega
     have k1 : (k : Int) < (n : Int) := by have := HLT.out; omega
     have HP := hide (show aheadB (prevK L j) x.d.key = decide (lex y.key x.key < 0) by rw [← hk, prevK, HL.out, pmap_get hy]; rfl)
     obtain ⟨SY, hSY⟩ : ∃ S, S = ba y.key := ⟨_, rfl⟩
     have HSY := hide hSY
     have hls := less_ba y.key x.key YF5.out.key.2.1 KX5.out.2.1
     rw [← hSY, ← HSX.out] at hls
     clear hk hkl hy h0 hSY
     by_cases hx9 : lex y.key x.key < 0
     ·have HE := hide (show rightB L = rightFrom (prevK L (j + 1)) (L.drop (j + 1)) by rw [HR.out, HOK.out, HP.out, decide_eq_true hx9]; rfl)
      rw [decide_eq_true hx9] at hls
      clear y0 y1 y2
      refine wp_region_held_drew (S := fun w' => Below w5.heap.size w5 w') (by kernel_rfl) ((Below.refl _ w5).drew) (fun hSC0 => ?_)
      obtain ⟨w5d, hwC⟩ : ∃ x, x = w5.drew := ⟨_, rfl⟩
      rw [← hwC] at hSC0 ⊢
      clear hwC
      refine tq 0 rfl hSC0 ?_
      refine tq 1 rfl hSC0 ?_
      refine tq 2 rfl hSC0 ?_
      refine tq 3 rfl hSC0 ?_
      refine tq 4 rfl hSC0 ?_
      refine tq 5 rfl hSC0 ?_
      refine tq 6 rfl hSC0 ?_
      refine tq 7 rfl hSC0 ?_
      (refine tq 8 rfl hSC0 ?_ (fun w' hSw => by have z : w'.cell? ⟨pb, off + k * 3, none⟩ = some (.slice y.kA y.kN y.kC) := (by have := (range_under YR.out hSw) 0 (.slice y.kA y.kN y.kC) rfl; simpa using this); go_simp; try with_reducible rfl))
      (refine tq 9 rfl hSC0 ?_ (fun w' hSw => by have z := run_str w' y.kA y.kN y.kC y.key (YF5.out.key.below hSw); rw [← HSY.out] at z; go_simp; try with_reducible rfl))
      refine tq 10 rfl hSC0 ?_
      (refine tq 11 rfl hSC0 ?_ (fun w' hSw => by have z := (K5.out.under hSw).c0; go_simp; try with_reducible rfl))
      (refine tq 12 rfl hSC0 ?_ (fun w' hSw => by have z := run_str w' x.kA x.kN x.kC x.key (KX5.out.below hSw); rw [← HSX.out] at z; go_simp; try with_reducible rfl))
      refine tq 13 rfl hSC0 ?_
      refine tq 14 rfl hSC0 ?_
      refine wpAnyH_done (by kernel_rfl) ?_ _
      go_wp2_with fail
      exact ⟨⟨j + 1, by have := HLT.out; omega, by go_num, HE.out, Below.then_ B05.out hSC0⟩, by have := HLT.out; simp [intOf]; omega⟩
     ·have HE := hide (show rightB L = false by rw [HR.out, HOK.out, HP.out, decide_eq_false hx9]; rfl)
      rw [decide_eq_false hx9] at hls
      clear y0 y1 y2
      refine wp_region_held_drew (S := fun w' => Below w5.heap.size w5 w') (by kernel_rfl) ((Below.refl _ w5).drew) (fun hSD0 => ?_)
      obtain ⟨w5d, hwD⟩ : ∃ x, x = w5.drew := ⟨_, rfl⟩
      rw [← hwD] at hSD0 ⊢
      clear hwD
      refine tq 0 rfl hSD0 ?_
      refine tq 1 rfl hSD0 ?_
      refine tq 2 rfl hSD0 ?_
      refine tq 3 rfl hSD0 ?_
      refine tq 4 rfl hSD0 ?_
      refine tq 5 rfl hSD0 ?_
      refine tq 6 rfl hSD0 ?_
      refine tq 7 rfl hSD0 ?_
      (refine tq 8 rfl hSD0 ?_ (fun w' hSw => by have z : w'.cell? ⟨pb, off + k * 3, none⟩ = some (.slice y.kA y.kN y.kC) := (by have := (range_under YR.out hSw) 0 (.slice y.kA y.kN y.kC) rfl; simpa using this); go_simp; try with_reducible rfl))
      (refine tq 9 rfl hSD0 ?_ (fun w' hSw => by have z := run_str w' y.kA y.kN y.kC y.key (YF5.out.key.below hSw); rw [← HSY.out] at z; go_simp; try with_reducible rfl))
      refine tq 10 rfl hSD0 ?_
      (refine tq 11 rfl hSD0 ?_ (fun w' hSw => by have z := (K5.out.under hSw).c0; go_simp; try with_reducible rfl))
      (refine tq 12 rfl hSD0 ?_ (fun w' hSw => by have z := run_str w' x.kA x.kN x.kC x.key (KX5.out.below hSw); rw [← HSX.out] at z; go_simp; try with_reducible rfl))
      refine tq 13 rfl hSD0 ?_
      refine tq 14 rfl hSD0 ?_
      refine wpAnyH_done (by kernel_rfl) ?_ _
      go_wp2_with fail
      go_ret
      exact ⟨by rw [HE.out]; rfl, Below.then_ B05.out hSD0⟩
   ·have HOK := hide h9
    have q1 : ((x.kN : Int) == 0) = false := by simp; omega
    have q2 : ¬ (200 : Int) < (x.kN : Int) := by omega
    have q3 : ¬ (20000 : Int) < (x.vN : Int) := by omega
    have HG := hide h4
    clear h9 h4 h1 h2 h3
    have tokA : True := trivial
    have tokB : True := trivial
    go_wp2_with (first
     | (have _t := tokA; clear _t tokA; refine wpList_alloc_agg rfl 59 rfl zeroPr zeroPr_info ?_; simp only [pU])
     | (have _t := tokB; clear _t tokB; refine pr_store rfl _ _ rfl wr rfl (by rfl) x (by rfl) ?_; intro w5 b5 s5 k5; have B5 := hide b5; have K5 := hide k5; have y0 := k5.c0; have y1 := k5.c1; have y2 := k5.c2; rw [HG.out] at y2; clear b5 s5 k5 hld; simp only [Act.put]))
    have B05 := hide (Below.then_ HB.out B5.out)
    have KX5 := hide (show Bys w5 x.kA x.kN x.key from XF.out.key.below B5.out)
    obtain ⟨SX, hSX⟩ : ∃ S, S = ba x.key := ⟨_, rfl⟩
    have HSX := hide hSX
    clear hSX
    by_cases h0 : j = 0
    ·subst h0
     have HE := hide (show rightB L = rightFrom (prevK L (0 + 1)) (L.drop (0 + 1)) by rw [HR.out, HOK.out]; rfl)
     clear y0 y1 y2
     refine wp_region_held_drew (S := fun w' => Below w5.heap.size w5 w') (by kernel_rfl) ((Below.refl _ w5).drew) (fun hSB0 => ?_)
     obtain ⟨w5d, hwB⟩ : ∃ x, x = w5.drew := ⟨_, rfl⟩
     rw [← hwB] at hSB0 ⊢
     clear hwB
     refine tq 0 rfl hSB0 ?_
     refine tq 1 rfl hSB0 ?_
     refine tq 2 rfl hSB0 ?_
     refine tm 3 rfl hSB0 ?_
     refine tm 4 rfl hSB0 ?_
     refine tm 5 rfl hSB0 ?_
     refine tm 6 rfl hSB0 ?_
     refine tm 7 rfl hSB0 ?_
     refine tm 8 rfl hSB0 ?_
     refine tm 9 rfl hSB0 ?_
     refine tm 10 rfl hSB0 ?_
     refine tm 11 rfl hSB0 ?_
     refine tm 12 rfl hSB0 ?_
     refine tm 13 rfl hSB0 ?_
     refine tq 14 rfl hSB0 ?_
     refine wpAnyH_done (by kernel_rfl) ?_ _
     go_wp2_with fail
     exact ⟨⟨0 + 1, by have := HLT.out; omega, by go_num, HE.out, Below.then_ B05.out hSB0⟩, by have := HLT.out; simp [intOf]; omega⟩
    ·obtain ⟨k, hk⟩ : ∃ k, k + 1 = j := ⟨j - 1, by omega⟩
     have hkl : k < xs.length := by rw [XR.out.1]; have := HLT.out; omega
     obtain ⟨y, hy⟩ : ∃ y, xs[k]? = some y := ⟨_, List.getElem?_eq_getElem hkl⟩
     have YF5 := hide ((XR.out.2.1 y (List.mem_of_getElem? hy)).below B5.out)
     have YR := hide (range_under (HROW.out k y hy) B5.out)
     have hwr : IntKind.i64.wrap (k : Int) = (k : Int) := by rw [IntKind.wrap_i64]; omega
     have hwr2 : (j : Int) - 1 = (k : Int) := by omega
     have j1 : (j : Int) > 0 := by omega
     have j3 : 0 < j := by omega
     have k0 : (0 : Int) ≤ (k : Int) := by omega
     have k1 : (k : Int) < (n : Int) := by have := HLT.out; omega
     have HP := hide (show aheadB (prevK L j) x.d.key = decide (lex y.key x.key < 0) by rw [← hk, prevK, HL.out, pmap_get hy]; rfl)
     obtain ⟨SY, hSY⟩ : ∃ S, S = ba y.key := ⟨_, rfl⟩
     have HSY := hide hSY
     have hls := less_ba y.key x.key YF5.out.key.2.1 KX5.out.2.1
     rw [← hSY, ← HSX.out] at hls
     clear hk hkl hy h0 hSY
     by_cases hx9 : lex y.key x.key < 0
     ·have HE := hide (show rightB L = rightFrom (prevK L (j + 1)) (L.drop (j + 1)) by rw [HR.out, HOK.out, HP.out, decide_eq_true hx9]; rfl)
      rw [decide_eq_true hx9] at hls
      clear y0 y1 y2
      refine wp_region_held_drew (S := fun w' => Below w5.heap.size w5 w') (by kernel_rfl) ((Below.refl _ w5).drew) (fun hSC0 => ?_)
      obtain ⟨w5d, hwC⟩ : ∃ x, x = w5.drew := ⟨_, rfl⟩
      rw [← hwC] at hSC0 ⊢
      clear hwC
      refine tq 0 rfl hSC0 ?_
      refine tq 1 rfl hSC0 ?_
      refine tq 2 rfl hSC0 ?_
      refine tq 3 rfl hSC0 ?_
      refine tq 4 rfl hSC0 ?_
      refine tq 5 rfl hSC0 ?_
      refine tq 6 rfl hSC0 ?_
      refine tq 7 rfl hSC0 ?_
      (refine tq 8 rfl hSC0 ?_ (fun w' hSw => by have z : w'.cell? ⟨pb, off + k * 3, none⟩ = some (.slice y.kA y.kN y.kC) := (by have := (range_under YR.out hSw) 0 (.slice y.kA y.kN y.kC) rfl; simpa using this); go_simp; try with_reducible rfl))
      (refine tq 9 rfl hSC0 ?_ (fun w' hSw => by have z := run_str w' y.kA y.kN y.kC y.key (YF5.out.key.below hSw); rw [← HSY.out] at z; go_simp; try with_reducible rfl))
      refine tq 10 rfl hSC0 ?_
      (refine tq 11 rfl hSC0 ?_ (fun w' hSw => by have z := (K5.out.under hSw).c0; go_simp; try with_reducible rfl))
      (refine tq 12 rfl hSC0 ?_ (fun w' hSw => by have z := run_str w' x.kA x.kN x.kC x.key (KX5.out.below hSw); rw [← HSX.out] at z; go_simp; try with_reducible rfl))
      refine tq 13 rfl hSC0 ?_
      refine tq 14 rfl hSC0 ?_
      refine wpAnyH_done (by kernel_rfl) ?_ _
      go_wp2_with fail
      exact ⟨⟨j + 1, by have := HLT.out; omega, by go_num, HE.out, Below.then_ B05.out hSC0⟩, by have := HLT.out; simp [intOf]; omega⟩
     ·have HE := hide (show rightB L = false by rw [HR.out, HOK.out, HP.out, decide_eq_false hx9]; rfl)
      rw [decide_eq_false hx9] at hls
      clear y0 y1 y2
      refine wp_region_held_drew (S := fun w' => Below w5.heap.size w5 w') (by kernel_rfl) ((Below.refl _ w5).drew) (fun hSD0 => ?_)
      obtain ⟨w5d, hwD⟩ : ∃ x, x = w5.drew := ⟨_, rfl⟩
      rw [← hwD] at hSD0 ⊢
      clear hwD
      refine tq 0 rfl hSD0 ?_
      refine tq 1 rfl hSD0 ?_
      refine tq 2 rfl hSD0 ?_
      refine tq 3 rfl hSD0 ?_
      refine tq 4 rfl hSD0 ?_
      refine tq 5 rfl hSD0 ?_
      refine tq 6 rfl hSD0 ?_
      refine tq 7 rfl hSD0 ?_
      (refine tq 8 rfl hSD0 ?_ (fun w' hSw => by have z : w'.cell? ⟨pb, off + k * 3, none⟩ = some (.slice y.kA y.kN y.kC) := (by have := (range_under YR.out hSw) 0 (.slice y.kA y.kN y.kC) rfl; simpa using this); go_simp; try with_reducible rfl))
      (refine tq 9 rfl hSD0 ?_ (fun w' hSw => by have z := run_str w' y.kA y.kN y.kC y.key (YF5.out.key.below hSw); rw [← HSY.out] at z; go_simp; try with_reducible rfl))
      refine tq 10 rfl hSD0 ?_
      (refine tq 11 rfl hSD0 ?_ (fun w' hSw => by have z := (K5.out.under hSw).c0; go_simp; try with_reducible rfl))
      (refine tq 12 rfl hSD0 ?_ (fun w' hSw => by have z := run_str w' x.kA x.kN x.kC x.key (KX5.out.below hSw); rw [← HSX.out] at z; go_simp; try with_reducible rfl))
      refine tq 13 rfl hSD0 ?_
      refine tq 14 rfl hSD0 ?_
      refine wpAnyH_done (by kernel_rfl) ?_ _
      go_wp2_with fail
      go_ret
      exact ⟨by rw [HE.out]; rfl, Below.then_ B05.out hSD0⟩
  ·have HJ := hide (show j = n by omega)
   have i1 : ¬ (j : Int) < (n : Int) := by omega
   have HR := hide hr
   clear hr hb hlt
   go_wp2_with fail
   go_ret
   refine ⟨?_, HB.out⟩
   have hl : L.length ≤ j := by rw [HL.out, List.length_map, XR.out.1, HJ.out]; exact Nat.le_refl _
   rw [HR.out, List.drop_of_length_le hl]
   rfl
end
end Go.Proofs.YtjnpkcabkccaoaaGreat
